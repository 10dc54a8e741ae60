/- Words, walks and plain laws that the row of the law ScriptNodes rests on. -/
import Derived.Test.YtndgaeldndgioaaGreatDoorMScriptNodes1
import Derived.RegionTactic
import Derived.Test.YtndgaeldndgioaaGreatDoorMScriptNodes0
import Derived.Maps.OwnSet
import Derived.Maps.Views
import Derived.DeepKeys4
import Derived.KernelRfl
import Derived.Test.YtndgaeldndgioaaGreatDoorRows
import Derived.Lib.LaidU8
import Derived.Lay
import Derived.Handed
import Derived.SizedLaws
import Derived.LaidLaws
import Derived.Shelf.Vars
import Derived.LaidHandle
import Derived.Stop.Joined
import Derived.Deep.Slices
import Derived.Deep.Fields
import Derived.ChangeSame
section
/- What is written is read back by the program: lines and events. -/
set_option linter.unusedVariables false
set_option linter.unusedSimpArgs false
set_option maxHeartbeats 1000000
namespace Go.Proofs.YtndgaeldndgioaaGreatDoor.Pure
open Go.RowKit Go.Proofs.YtndgaeldndgioaaGreatDoor.QAll Go.Proofs.YtndgaeldndgioaaGreatDoorW.PrintWords Go.Proofs.YtndgaeldndgioaaGreatDoorW.PrintLast
def upd (e : Ev) (c : UInt8) (e0 : Ev) : Ev :=
  if c = 83 then { e0 with s := e.s } else if c = 88 then { e0 with x := e.x } else if c = 89 then { e0 with y := e.y } else if c = 65 then { e0 with a := e.a }
  else if c = 66 then { e0 with b := e.b } else if c = 78 then { e0 with n := e.n } else { e0 with m := e.m }
theorem inv_upd (e e0 : Ev) (c : UInt8) (M : Nat) (hi : Inv 90000 e) (h0 : Inv M e0) : Inv M (upd e c e0) := by
  unfold upd
  split
  · exact ⟨h0.a, h0.b, h0.n, h0.m, h0.x, h0.y, hi.s, h0.d, h0.l⟩
  split
  · exact ⟨h0.a, h0.b, h0.n, h0.m, hi.x, h0.y, h0.s, h0.d, h0.l⟩
  split
  · exact ⟨h0.a, h0.b, h0.n, h0.m, h0.x, hi.y, h0.s, h0.d, h0.l⟩
  split
  · exact ⟨hi.a, h0.b, h0.n, h0.m, h0.x, h0.y, h0.s, h0.d, h0.l⟩
  split
  · exact ⟨h0.a, hi.b, h0.n, h0.m, h0.x, h0.y, h0.s, h0.d, h0.l⟩
  split
  · exact ⟨h0.a, h0.b, hi.n, h0.m, h0.x, h0.y, h0.s, h0.d, h0.l⟩
  · exact ⟨h0.a, h0.b, h0.n, hi.m, h0.x, h0.y, h0.s, h0.d, h0.l⟩
theorem let_u8 {c : UInt8} (hc : isLet (c.toNat : Int)) : c = 83 ∨ c = 68 ∨ c = 88 ∨ c = 89 ∨ c = 65 ∨ c = 66 ∨ c = 78 ∨ c = 77 := by
  have f : ∀ z : UInt8, (c.toNat : Int) = (z.toNat : Int) → c = z := fun z h => UInt8.toNat_inj.1 (by omega)
  rcases hc with h | h | h | h | h | h | h | h
  · exact Or.inl (f 83 h)
  · exact Or.inr (Or.inl (f 68 h))
  · exact Or.inr (Or.inr (Or.inl (f 88 h)))
  · exact Or.inr (Or.inr (Or.inr (Or.inl (f 89 h))))
  · exact Or.inr (Or.inr (Or.inr (Or.inr (Or.inl (f 65 h)))))
  · exact Or.inr (Or.inr (Or.inr (Or.inr (Or.inr (Or.inl (f 66 h))))))
  · exact Or.inr (Or.inr (Or.inr (Or.inr (Or.inr (Or.inr (Or.inl (f 78 h)))))))
  · exact Or.inr (Or.inr (Or.inr (Or.inr (Or.inr (Or.inr (Or.inr (f 77 h)))))))
theorem set_upd (e e0 : Ev) (c : UInt8) (M : Nat) (hM : M ≤ 90000) (hi : Inv 90000 e) (h0 : Inv M e0) (hc : isLet (c.toNat : Int)) (hd : c ≠ 68) : setC e0 (c.toNat : Int) (wordE e c).1 = some (upd e c e0, true) := by
  rcases let_u8 hc with rfl | rfl | rfl | rfl | rfl | rfl | rfl | rfl
  · exact set_txtW e0 e.s M hM h0 hi.s
  · exact absurd rfl hd
  · exact set_numW e0 88 e.x { e0 with x := e.x } M hM h0 (by decide) (by decide) hi.x rfl
  · exact set_numW e0 89 e.y { e0 with y := e.y } M hM h0 (by decide) (by decide) hi.y rfl
  · exact set_numW e0 65 e.a { e0 with a := e.a } M hM h0 (by decide) (by decide) hi.a rfl
  · exact set_numW e0 66 e.b { e0 with b := e.b } M hM h0 (by decide) (by decide) hi.b rfl
  · exact set_numW e0 78 e.n { e0 with n := e.n } M hM h0 (by decide) (by decide) hi.n rfl
  · exact set_numW e0 77 e.m { e0 with m := e.m } M hM h0 (by decide) (by decide) hi.m rfl
theorem readL_back (e : Ev) (hi : Inv 90000 e) : ∀ (L : List UInt8) (e0 : Ev) (M : Nat), M ≤ 90000 → Inv M e0 → (∀ c ∈ L, isLet (c.toNat : Int)) → (68 : UInt8) ∉ L → readL L (L.map fun c => (wordE e c).1) e0 = some (some (L.foldl (fun e0 c => upd e c e0) e0))
  | [], e0, _, _, _, _, _ => rfl
  | c :: L, e0, M, hM, h0, hc, h68 => by
    rw [List.map_cons, readL, set_upd e e0 c M hM hi h0 (hc c (by simp)) (fun h => h68 (by rw [h]; exact List.mem_cons_self))]
    simp only [Option.bind_some]
    rw [if_pos trivial, readL_back e hi L (upd e c e0) M hM (inv_upd e e0 c M hi h0) (fun x hx => hc x (by simp [hx])) (fun h => h68 (List.mem_cons_of_mem _ h)), List.foldl_cons]
theorem ev_ext {e e' : Ev} (h1 : e.k = e'.k) (h2 : e.a = e'.a) (h3 : e.b = e'.b) (h4 : e.n = e'.n) (h5 : e.m = e'.m) (h6 : e.s = e'.s) (h7 : e.x = e'.x) (h8 : e.y = e'.y) (h9 : e.d = e'.d) : e = e' := by
  cases e; cases e'
  simp only at h1 h2 h3 h4 h5 h6 h7 h8 h9
  subst h1 h2 h3 h4 h5 h6 h7 h8 h9
  rfl
theorem fold_back : ∀ k : Nat, k < 12 → k ≠ 4 → ∀ e : Ev, SameL (lettL.getD k []) (ev0 k) e → (lettL.getD k []).foldl (fun e0 c => upd e c e0) (ev0 k) = e
  | 0, _, _, e, h => ev_ext h.k.symm (h.a (by decide)).symm (h.b (by decide)).symm (h.n (by decide)).symm (h.m (by decide)).symm (h.s (by decide)).symm (h.x (by decide)).symm (h.y (by decide)).symm (h.d (by decide)).symm
  | 1, _, _, e, h => ev_ext h.k.symm rfl (h.b (by decide)).symm (h.n (by decide)).symm (h.m (by decide)).symm rfl (h.x (by decide)).symm (h.y (by decide)).symm (h.d (by decide)).symm
  | 2, _, _, e, h => ev_ext h.k.symm rfl (h.b (by decide)).symm (h.n (by decide)).symm (h.m (by decide)).symm rfl (h.x (by decide)).symm (h.y (by decide)).symm (h.d (by decide)).symm
  | 3, _, _, e, h => ev_ext h.k.symm rfl (h.b (by decide)).symm (h.n (by decide)).symm (h.m (by decide)).symm (h.s (by decide)).symm (h.x (by decide)).symm (h.y (by decide)).symm (h.d (by decide)).symm
  | 4, _, h4, _, _ => absurd rfl h4
  | 5, _, _, e, h => ev_ext h.k.symm rfl rfl (h.n (by decide)).symm (h.m (by decide)).symm (h.s (by decide)).symm (h.x (by decide)).symm (h.y (by decide)).symm (h.d (by decide)).symm
  | 6, _, _, e, h => ev_ext h.k.symm rfl rfl rfl rfl (h.s (by decide)).symm (h.x (by decide)).symm (h.y (by decide)).symm (h.d (by decide)).symm
  | 7, _, _, e, h => ev_ext h.k.symm rfl rfl (h.n (by decide)).symm (h.m (by decide)).symm (h.s (by decide)).symm (h.x (by decide)).symm (h.y (by decide)).symm (h.d (by decide)).symm
  | 8, _, _, e, h => ev_ext h.k.symm rfl rfl (h.n (by decide)).symm (h.m (by decide)).symm (h.s (by decide)).symm (h.x (by decide)).symm (h.y (by decide)).symm (h.d (by decide)).symm
  | 9, _, _, e, h => ev_ext h.k.symm rfl (h.b (by decide)).symm rfl (h.m (by decide)).symm (h.s (by decide)).symm rfl rfl (h.d (by decide)).symm
  | 10, _, _, e, h => ev_ext h.k.symm rfl (h.b (by decide)).symm (h.n (by decide)).symm (h.m (by decide)).symm (h.s (by decide)).symm rfl rfl (h.d (by decide)).symm
  | 11, _, _, e, h => ev_ext h.k.symm rfl (h.b (by decide)).symm (h.n (by decide)).symm (h.m (by decide)).symm (h.s (by decide)).symm rfl rfl (h.d (by decide)).symm
  | k + 12, h, _, _, _ => absurd h (by omega)
theorem no68 : ∀ k : Nat, k < 12 → k ≠ 4 → (68 : UInt8) ∉ lettL.getD k []
  | 0, _, _ => by decide | 1, _, _ => by decide | 2, _, _ => by decide | 3, _, _ => by decide | 4, _, h => absurd rfl h | 5, _, _ => by decide | 6, _, _ => by decide | 7, _, _ => by decide | 8, _, _ => by decide | 9, _, _ => by decide | 10, _, _ => by decide | 11, _, _ => by decide
  | k + 12, h, _ => absurd h (by omega)
theorem lett_pos : ∀ k : Nat, 0 < k → k < 12 → 0 < (lettL.getD k []).length
  | 0, h, _ => absurd h (by decide)
  | 1, _, _ => by decide | 2, _, _ => by decide | 3, _, _ => by decide | 4, _, _ => by decide | 5, _, _ => by decide | 6, _, _ => by decide | 7, _, _ => by decide | 8, _, _ => by decide | 9, _, _ => by decide | 10, _, _ => by decide | 11, _, _ => by decide
  | k + 12, _, h => absurd h (by omega)
theorem read_back (e : Ev) (k : Nat) (h : DE e k) (hok : okE e k = true) : readG k (wsE e k) = some (e, true) := by
  have hp := lett_pos k h.k0 h.k12
  have hs := lett_sz k
  have hw : (wsE e k).length = (lettL.getD k []).length := by unfold wsE; rw [List.length_map]
  unfold readG
  rw [if_neg (by omega)]
  have el : (lettersOf k).data.toList = lettL.getD k [] := rfl
  rw [el]
  have hr : readL (lettL.getD k []) (wsE e k) (ev0 k) = some (some e) := by
    by_cases h4 : k = 4
    · subst h4
      have hd : (decide ((e.d.length : Int) ≤ 16)) = true := by
        have : okE e 4 = ((decide ((e.d.length : Int) ≤ 16)) && true) := rfl
        rw [this, Bool.and_true] at hok
        exact hok
      have hd' := of_decide_eq_true hd
      show readL [68] [⟨#[35]⟩ ++ hexD e.d] (ev0 4) = _
      rw [readL]
      have := set_drwW (ev0 4) e.d 0 (by omega) (inv0' 4) h.inv.d (by omega) rfl
      rw [show (((68 : UInt8).toNat : Nat) : Int) = 68 from rfl, this]
      show some (some { ev0 4 with d := e.d }) = some (some e)
      have hq := h.same
      rw [ev_ext (e := { ev0 4 with d := e.d }) (e' := e) hq.k.symm (hq.a (by decide)).symm (hq.b (by decide)).symm (hq.n (by decide)).symm (hq.m (by decide)).symm (hq.s (by decide)).symm (hq.x (by decide)).symm (hq.y (by decide)).symm rfl]
    · have := readL_back e h.inv (lettL.getD k []) (ev0 k) 0 (by omega) (inv0' k) (lets_all k h.k12) (no68 k h.k12 h4)
      rw [fold_back k h.k12 h4 e h.same] at this
      exact this
  rw [hr]
  rfl
theorem join_le (c : UInt8) (B : Nat) : ∀ (r : List (List UInt8)) (x : List UInt8), (∀ y ∈ x :: r, y.length ≤ B) → (Lib.join (x :: r) [c]).length ≤ (r.length + 1) * (B + 1)
  | [], x, h => by
    rw [Lib.join_one]
    have := h x (by simp)
    simp; omega
  | y :: r, x, h => by
    have e : Lib.join (x :: y :: r) [c] = x ++ c :: Lib.join (y :: r) [c] := by
      rw [Lib.join_cons, Lib.join_cons]
      simp [Lib.joinTail]
    have h1 := h x (by simp)
    have h2 := join_le c B r y (fun z hz => h z (by simp [List.mem_cons.1 hz]))
    rw [e, List.length_append, List.length_cons, List.length_cons, Nat.add_mul (r.length + 1) 1 (B + 1)]
    omega
theorem name_small_all : ((List.range 12).all fun k => decide ((nameOf k).size ≤ 5) && (nameOf k).toList.all fun b => decide (b ≠ 32)) = true := by kernel_rfl
theorem name_small (k : Nat) (hk : k < 12) : (nameOf k).size ≤ 5 ∧ ∀ b ∈ (nameOf k).toList, b ≠ 32 := by
  have h := List.all_eq_true.1 name_small_all k (List.mem_range.2 hk)
  rw [Bool.and_eq_true] at h
  exact ⟨of_decide_eq_true h.1, fun b hb => of_decide_eq_true (List.all_eq_true.1 h.2 b hb)⟩
theorem ws_all (e : Ev) (k : Nat) (h : DE e k) : ∀ y ∈ nameOf k :: wsE e k, y.size ≤ 190000 ∧ ∀ b ∈ y.toList, b ≠ 32 := by
  intro y hy
  rcases List.mem_cons.1 hy with rfl | hy
  · have := name_small k h.k12
    exact ⟨by omega, this.2⟩
  · obtain ⟨c, hc, rfl⟩ := List.mem_map.1 hy
    exact word_len e c h.inv (lets_all k h.k12 c hc)
theorem ws_len (e : Ev) (k : Nat) (h : DE e k) : (wsE e k).length ≤ 4 := by
  unfold wsE
  rw [List.length_map]
  exact lett_len k h.k12
theorem ln_len (e : Ev) (k : Nat) (h : DE e k) : (joinL (nameOf k :: wsE e k) ⟨#[32]⟩).length ≤ 1000000 := by
  have hl := ws_len e k h
  have := join_le 32 190000 ((wsE e k).map (·.data.toList)) (nameOf k).data.toList (fun y hy => by
    have hy' : y ∈ (nameOf k :: wsE e k).map (·.data.toList) := hy
    obtain ⟨z, hz, rfl⟩ := List.mem_map.1 hy'
    have := (ws_all e k h z hz).1
    rw [← len_eq, Go.ByteArray.toList_eq] at this
    exact this)
  unfold joinL
  have h2 : ((wsE e k).map (·.data.toList)).length ≤ 4 := by rw [List.length_map]; exact hl
  refine Nat.le_trans this ?_
  have : (((wsE e k).map (·.data.toList)).length + 1) * (190000 + 1) ≤ 5 * (190000 + 1) := Nat.mul_le_mul_right _ (by omega)
  omega
theorem ln_split (e : Ev) (k : Nat) (h : DE e k) : splitS (lnE e k) ⟨#[32]⟩ = nameOf k :: wsE e k := by
  apply map_inj
  rw [split_list, Go.ByteArray.toList_eq]
  show splitL 32 (Lib.join ((nameOf k :: wsE e k).map (·.data.toList)) [32]) = _
  rw [List.map_cons, split_join 32 _ _ (fun y hy b hb => by
    have hy' : y ∈ (nameOf k :: wsE e k).map (·.data.toList) := hy
    obtain ⟨z, hz, rfl⟩ := List.mem_map.1 hy'
    exact (ws_all e k h z hz).2 b (by rw [Go.ByteArray.toList_eq]; exact hb)), List.map_cons]
  simp [Go.ByteArray.toList_eq]
theorem kind_name_all : ((List.range 12).all fun k => k == 0 || decide (script_kindOf.f 50 (nameOf k) = some (k : Int))) = true := by kernel_rfl
theorem kind_name (k : Nat) (h0 : 0 < k) (hk : k < 12) : script_kindOf.f 50 (nameOf k) = some (k : Int) := by
  have h := List.all_eq_true.1 kind_name_all k (List.mem_range.2 hk)
  have e : (k == 0) = false := beq_false_of_ne (by omega)
  rw [e, Bool.false_or] at h
  exact of_decide_eq_true h
theorem kind_some (l0 : ByteArray) : ∀ (d j K : Nat), j + d = 12 → d + 1 ≤ K → ∃ k : Nat, k < 12 ∧ script_kindOf.l0 K l0 (j : Int) = some (k : Int)
  | _, _, 0, _, hK => absurd hK (by omega)
  | 0, j, K + 1, hj, _ => ⟨0, by omega, by rw [script_kindOf.l0, if_neg (by omega)]; rfl⟩
  | d + 1, j, K + 1, hj, hK => by
    rw [script_kindOf.l0, if_pos (by omega), form_at j (by omega)]
    simp only [Option.bind_some]
    by_cases hq : (nameOf j).toList = l0.toList
    · rw [if_pos hq]
      exact ⟨j, by omega, rfl⟩
    · rw [if_neg hq, wrap_lit j 1 1 rfl (by omega)]
      exact kind_some l0 d (j + 1) K (by omega) (by omega)
end Go.Proofs.YtndgaeldndgioaaGreatDoor.Pure
end

section
/- script.Parse of any line of up to 2000 letters: its event, if the line is an event's; else none. -/
set_option linter.unusedVariables false
set_option linter.unusedSimpArgs false
set_option maxHeartbeats 1000000
namespace Go.Proofs.YtndgaeldndgioaaGreatDoor.Pure
open Go.RowKit Go.Proofs.YtndgaeldndgioaaGreatDoor.QAll Go.Proofs.YtndgaeldndgioaaGreatDoorW.PrintWords Go.Proofs.YtndgaeldndgioaaGreatDoorW.PrintLast
theorem i64_of {v : Int} (h : -9999 ≤ v ∧ v ≤ 9999) : I64 v := by unfold I64; omega
theorem told_of (e : Ev) (k : Nat) (h : DE e k) : QAll.Told e k (if okE e k = true then lnE e k else ⟨#[]⟩) (okE e k) := by
  have hi := h.inv
  have hll := ln_len e k h
  have hwl := ws_len e k h
  refine ⟨h.k0, h.k12, h.same.k, ⟨⟨hi.x.1, hi.x.2, hi.y.1, hi.y.2⟩, by have := hi.s; omega, hi.d, by have := hi.l; omega, i64_of hi.a, i64_of hi.b, i64_of hi.n, i64_of hi.m⟩, ⟨_, lineL_of e k h.k12, ?_⟩, fun hok => ⟨nameOf k, wsE e k, 50, ?_, ?_, kind_name k h.k0 h.k12, read_back e k h hok⟩⟩
  · cases hok : okE e k with
    | true =>
      rw [if_pos rfl, if_pos rfl]
      show (strings_Join.f (nameOf k :: wsE e k) ⟨#[32]⟩).map (fun r => (r, true)) = _
      unfold strings_Join.f
      rw [if_pos ⟨by simp, by rw [List.length_cons]; omega, by omega⟩]
      rfl
    | false =>
      rw [if_neg (by decide), if_neg (by decide)]
      rfl
  · rw [if_pos hok, ← len_eq, Go.ByteArray.toList_eq]
    exact hll
  · rw [if_pos hok]
    exact ln_split e k h
theorem split_empty : splitS (⟨#[]⟩ : ByteArray) ⟨#[32]⟩ = [⟨#[]⟩] := by
  apply map_inj
  rw [split_list, Go.ByteArray.toList_eq]
  show splitL 32 [] = [ByteArray.toList ⟨#[]⟩]
  rw [Go.ByteArray.toList_eq]
  rfl
theorem kind_of (l0 : ByteArray) : ∃ k : Nat, k < 12 ∧ script_kindOf.f 50 l0 = some (k : Int) := kind_some l0 11 1 50 (by omega) (by omega)
theorem in_L (s : ByteArray) (l0 : ByteArray) (ws : List ByteArray) (hsp : splitS s ⟨#[32]⟩ = l0 :: ws) (k : Nat) (hk : script_kindOf.f 50 l0 = some (k : Int)) (e : Ev) (k' : Nat) (h : DE e k') (hok : okE e k' = true) (hl : lnE e k' = s) : k' = k ∧ readG k ws = some (e, true) := by
  have h1 := ln_split e k' h
  rw [hl, hsp] at h1
  injection h1 with h2 h3
  subst h2 h3
  rw [kind_name k' h.k0 h.k12] at hk
  have : k' = k := by have := Option.some.inj hk; omega
  subst this
  exact ⟨rfl, read_back e k' h hok⟩
theorem script_parse (s : ByteArray) (hs : s.size ≤ 2000) : ∃ out : Ev × Int, ((∃ k, DE out.1 k ∧ okE out.1 k = true ∧ lnE out.1 k = s ∧ out.2 = 0) ∨ (out = (ev0 0, 2) ∧ ∀ e k, DE e k → okE e k = true → lnE e k ≠ s)) ∧
    ∀ w, EnvW w → Calls Tryz.prog 7 #[.string s] w fun r w' => ∃ A c, r = .returned (.tuple #[evV out.1 A c, .int .i64 out.2]) ∧ (Kd.int .u8).R 5 w' w.heap.size (fun _ => True) (.slice A out.1.d.length c) out.1.d ∧ Below w.heap.size w w' := by
  obtain ⟨h1, h2, h3⟩ := split_sizes s 32
  match hsp : splitS s ⟨#[32]⟩, h1 with
  | l0 :: ws, _ =>
  rw [hsp] at h3
  obtain ⟨k, hk12, hk⟩ := kind_of l0
  rcases readG_some k hk12 ws (fun x hx => by have := h3 x (by simp [hx]); omega) with hr | ⟨e, hr, hD⟩
  · refine ⟨(ev0 0, 2), Or.inr ⟨rfl, fun e k' h hok hl => ?_⟩, fun w hE => parse_none s l0 ws 50 k w hE (by omega) hsp hk hk12 hr⟩
    obtain ⟨_, q⟩ := in_L s l0 ws hsp k hk e k' h hok hl
    rw [hr] at q
    have := (Prod.mk.inj (Option.some.inj q)).2
    cases this
  · have hT := told_of e k hD
    refine ⟨parT e (if okE e k = true then lnE e k else ⟨#[]⟩) (okE e k) s, ?_, fun w hE => parse_told s l0 ws 50 k e _ (okE e k) w hE (by omega) hsp hk hk12 hr hT⟩
    unfold parT
    cases hok : okE e k with
    | true =>
      rw [if_pos rfl, if_pos rfl]
      by_cases hq : lnE e k = s
      · rw [if_pos hq]
        exact Or.inl ⟨k, hD, hok, hq, rfl⟩
      · rw [if_neg hq]
        refine Or.inr ⟨rfl, fun e' k' h hok' hl => ?_⟩
        obtain ⟨rfl, q⟩ := in_L s l0 ws hsp k hk e' k' h hok' hl
        rw [hr] at q
        obtain rfl := (Prod.mk.inj (Option.some.inj q)).1
        exact hq hl
    | false =>
      rw [if_neg Bool.false_ne_true]
      have hne : ¬ (⟨#[]⟩ : ByteArray) = s := by
        rintro rfl
        rw [split_empty] at hsp
        injection hsp with _ q
        subst q
        unfold readG at hr
        have := lett_pos k hD.k0 hD.k12
        have hz := lett_sz k
        rw [if_pos (Or.inr (by rw [List.length_nil]; omega))] at hr
        cases (Prod.mk.inj (Option.some.inj hr)).2
      rw [if_neg hne]
      refine Or.inr ⟨rfl, fun e' k' h hok' hl => ?_⟩
      obtain ⟨rfl, q⟩ := in_L s l0 ws hsp k hk e' k' h hok' hl
      rw [hr] at q
      obtain rfl := (Prod.mk.inj (Option.some.inj q)).1
      rw [hok] at hok'
      cases hok'
end Go.Proofs.YtndgaeldndgioaaGreatDoor.Pure
end

section
/- squelchref30.Print, walked by hand, for each kind that there is. -/
set_option linter.unusedVariables false
set_option linter.unusedSimpArgs false
namespace Go.Proofs.YtndgaeldndgioaaGreatDoor.QAll
open Go.RowKit Go.Proofs.YtndgaeldndgioaaGreatDoorW.PrintWords Go.Proofs.YtndgaeldndgioaaGreatDoorW.PrintLast Go.Proofs.YtndgaeldndgioaaGreatDoorW.PrintMore

end Go.Proofs.YtndgaeldndgioaaGreatDoor.QAll
end

section
/- squelchref30.Print, walked by hand, for each kind that there is. -/
set_option linter.unusedVariables false
set_option linter.unusedSimpArgs false
namespace Go.Proofs.YtndgaeldndgioaaGreatDoor.QAll
open Go.RowKit Go.Proofs.YtndgaeldndgioaaGreatDoorW.PrintWords Go.Proofs.YtndgaeldndgioaaGreatDoorW.PrintLast Go.Proofs.YtndgaeldndgioaaGreatDoorW.PrintMore

end Go.Proofs.YtndgaeldndgioaaGreatDoor.QAll
end

section
/- squelchref30.Print, walked by hand, for each kind that there is. -/
set_option linter.unusedVariables false
set_option linter.unusedSimpArgs false
namespace Go.Proofs.YtndgaeldndgioaaGreatDoor.QAll
open Go.RowKit Go.Proofs.YtndgaeldndgioaaGreatDoorW.PrintWords Go.Proofs.YtndgaeldndgioaaGreatDoorW.PrintLast Go.Proofs.YtndgaeldndgioaaGreatDoorW.PrintMore

end Go.Proofs.YtndgaeldndgioaaGreatDoor.QAll
end

section
/- squelchref30.Print, walked by hand, for each kind that there is. -/
set_option linter.unusedVariables false
set_option linter.unusedSimpArgs false
namespace Go.Proofs.YtndgaeldndgioaaGreatDoor.QAll
open Go.RowKit Go.Proofs.YtndgaeldndgioaaGreatDoorW.PrintWords Go.Proofs.YtndgaeldndgioaaGreatDoorW.PrintLast Go.Proofs.YtndgaeldndgioaaGreatDoorW.PrintMore

end Go.Proofs.YtndgaeldndgioaaGreatDoor.QAll
end

section
/- squelchref30.Print of a tick, walked by hand. -/
set_option linter.unusedVariables false
set_option linter.unusedSimpArgs false
namespace Go.Proofs.YtndgaeldndgioaaGreatDoor.QAll
open Go.RowKit Go.Proofs.YtndgaeldndgioaaGreatDoorW.PrintWords Go.Proofs.YtndgaeldndgioaaGreatDoorW.PrintLast Go.Proofs.YtndgaeldndgioaaGreatDoorW.PrintMore

/-- The digits of the first k of a row of bytes. -/
def hexN (d : ByteArray) (k : Nat) : ByteArray := ⟨(((bytesOf d).take k).flatMap fun c => (twoS c).data.toList).toArray⟩
end Go.Proofs.YtndgaeldndgioaaGreatDoor.QAll
end

section
/- squelchref30.Print, walked by hand: the line of an event of a kind that there is. -/
set_option linter.unusedVariables false
set_option linter.unusedSimpArgs false
namespace Go.Proofs.YtndgaeldndgioaaGreatDoor.QAll
open Go.RowKit Go.Proofs.YtndgaeldndgioaaGreatDoorW.PrintWords Go.Proofs.YtndgaeldndgioaaGreatDoorW.PrintLast Go.Proofs.YtndgaeldndgioaaGreatDoorW.PrintMore

/-- A number's word, if it is no long one. -/
def numT (n : Int) : Option ByteArray := (squelchref30_num.f 60 n).bind fun t => if t.size ≤ 1000 then some t else none
def textT (s : ByteArray) : Option ByteArray := (squelchref30_text.f (s.size + 2) s).bind fun t => if t.size ≤ 1000000 then some t else none
def squelchref30_Print.f (k a b n m : Int) (s : ByteArray) (x y : Int) (d : ByteArray) : Option ByteArray := if k = 4 then (if d.size ≤ 1000000 then some ((⟨#[84, 73, 67, 75]⟩ ++ ⟨#[32, 35]⟩) ++ hexN d d.size) else none) else (if k = 1 then ((numT a).bind fun ta => (textT s).bind fun tt => some (((⟨#[75, 69, 89, 83]⟩ ++ ta) ++ ⟨#[32]⟩) ++ tt)) else (if k = 2 then ((numT a).bind fun ta => (textT s).bind fun tt => some (((⟨#[75, 73, 83, 83]⟩ ++ ta) ++ ⟨#[32]⟩) ++ tt)) else (if k = 3 then ((numT a).bind fun ta => some (⟨#[82, 69, 65, 68]⟩ ++ ta)) else (if k = 5 then ((numT a).bind fun ta => (numT b).bind fun tb => some ((⟨#[76, 79, 83, 69]⟩ ++ ta) ++ tb)) else (if k = 6 then ((numT a).bind fun ta => (numT b).bind fun tb => (numT n).bind fun tn => (numT m).bind fun tm => some ((((⟨#[83, 80, 79, 73, 76]⟩ ++ ta) ++ tb) ++ tn) ++ tm)) else (if k = 7 then ((numT a).bind fun ta => (numT b).bind fun tb => some ((⟨#[66, 76, 79, 67, 75]⟩ ++ ta) ++ tb)) else (if k = 8 then ((numT a).bind fun ta => (numT b).bind fun tb => some ((⟨#[79, 80, 69, 78]⟩ ++ ta) ++ tb)) else (if k = 9 then ((numT a).bind fun ta => (numT x).bind fun tx => (numT y).bind fun ty => (numT n).bind fun tn => some ((((⟨#[83, 84, 65, 78, 68]⟩ ++ ta) ++ tx) ++ ty) ++ tn)) else (if k = 10 then ((numT a).bind fun ta => (numT x).bind fun tx => (numT y).bind fun ty => some (((⟨#[77, 79, 86, 69]⟩ ++ ta) ++ tx) ++ ty)) else (if k = 11 then ((numT a).bind fun ta => (numT x).bind fun tx => (numT y).bind fun ty => some (((⟨#[84, 85, 82, 78]⟩ ++ ta) ++ tx) ++ ty)) else (none)))))))))))
end Go.Proofs.YtndgaeldndgioaaGreatDoor.QAll
end

section
/- Walks, written by a program of this session (wip/pp): a Go function comes to what the Lean function beside it tells. -/
namespace Go.Proofs.YtndgaeldndgioaaGreatDoor.QAll
open Go.RowKit Go.Proofs.YtndgaeldndgioaaGreatDoorW.PrintWords Go.Proofs.YtndgaeldndgioaaGreatDoorW.PrintLast Go.Proofs.YtndgaeldndgioaaGreatDoorW.PrintMore
attribute [local go_sem] max2_int min2_int max_two min_two max_three min_three max_four min_four
set_option linter.unusedVariables false
set_option linter.unusedSimpArgs false

def squelchref30_fits.f (a0 : Int) : Option (Bool) := if a0 ≥ (-9999) then (some (decide (a0 ≤ 9999))) else (some false)
end Go.Proofs.YtndgaeldndgioaaGreatDoor.QAll
end

section
/- Walks, written by a program of this session (wip/pp): a Go function comes to what the Lean function beside it tells. -/
namespace Go.Proofs.YtndgaeldndgioaaGreatDoor.QAll
open Go.RowKit Go.Proofs.YtndgaeldndgioaaGreatDoorW.PrintWords Go.Proofs.YtndgaeldndgioaaGreatDoorW.PrintLast Go.Proofs.YtndgaeldndgioaaGreatDoorW.PrintMore
attribute [local go_sem] max2_int min2_int max_two min_two max_three min_three max_four min_four
set_option linter.unusedVariables false
set_option linter.unusedSimpArgs false

mutual
def squelchref30_Right.j0 : Nat → Int → Bool → Int → Int → Int → Int → Int → ByteArray → Int → Int → ByteArray → Option (Bool)
 | 0, _, _, _, _, _, _, _, _, _, _, _ => none
 | k + 1, x3, x59, x188000, x188001, x188002, x188003, x188004, x188005, x188006, x188007, x188008 => if x59 = true then (some false) else (if x3 > 2 then (if x188005.toList = ([] : List UInt8) then (if x3 = 4 then (squelchref30_Right.j1 k x3 (x188001 != 0) x188000 x188001 x188002 x188003 x188004 x188005 x188006 x188007 x188008) else (if x188008.toList = ([] : List UInt8) then (squelchref30_Right.j1 k x3 false x188000 x188001 x188002 x188003 x188004 x188005 x188006 x188007 x188008) else (squelchref30_Right.j1 k x3 true x188000 x188001 x188002 x188003 x188004 x188005 x188006 x188007 x188008))) else (squelchref30_Right.j1 k x3 true x188000 x188001 x188002 x188003 x188004 x188005 x188006 x188007 x188008)) else (if x3 = 4 then (squelchref30_Right.j1 k x3 (x188001 != 0) x188000 x188001 x188002 x188003 x188004 x188005 x188006 x188007 x188008) else (if x188008.toList = ([] : List UInt8) then (squelchref30_Right.j1 k x3 false x188000 x188001 x188002 x188003 x188004 x188005 x188006 x188007 x188008) else (squelchref30_Right.j1 k x3 true x188000 x188001 x188002 x188003 x188004 x188005 x188006 x188007 x188008))))
def squelchref30_Right.j1 : Nat → Int → Bool → Int → Int → Int → Int → Int → ByteArray → Int → Int → ByteArray → Option (Bool)
 | 0, _, _, _, _, _, _, _, _, _, _, _ => none
 | k + 1, x3, x84, x188000, x188001, x188002, x188003, x188004, x188005, x188006, x188007, x188008 => if x84 = true then (some false) else (if x3 < 5 then (if x188002 = 0 then (if x3 = 6 then (if x3 ≥ 9 then (some true) else (if x188006 = 0 then (some (x188007 == 0)) else (some false))) else (if x188004 = 0 then (if x3 = 9 then (if x3 ≥ 9 then (some true) else (if x188006 = 0 then (some (x188007 == 0)) else (some false))) else (if x188003 = 0 then (if x3 ≥ 9 then (some true) else (if x188006 = 0 then (some (x188007 == 0)) else (some false))) else (some false))) else (some false))) else (some false)) else (if x3 > 8 then (if x188002 = 0 then (if x3 = 6 then (if x3 ≥ 9 then (some true) else (if x188006 = 0 then (some (x188007 == 0)) else (some false))) else (if x188004 = 0 then (if x3 = 9 then (if x3 ≥ 9 then (some true) else (if x188006 = 0 then (some (x188007 == 0)) else (some false))) else (if x188003 = 0 then (if x3 ≥ 9 then (some true) else (if x188006 = 0 then (some (x188007 == 0)) else (some false))) else (some false))) else (some false))) else (some false)) else (if x3 = 6 then (if x3 ≥ 9 then (some true) else (if x188006 = 0 then (some (x188007 == 0)) else (some false))) else (if x188004 = 0 then (if x3 = 9 then (if x3 ≥ 9 then (some true) else (if x188006 = 0 then (some (x188007 == 0)) else (some false))) else (if x188003 = 0 then (if x3 ≥ 9 then (some true) else (if x188006 = 0 then (some (x188007 == 0)) else (some false))) else (some false))) else (some false)))))
end
def squelchref30_Right.f (k : Nat) (a0_0 : Int) (a0_1 : Int) (a0_2 : Int) (a0_3 : Int) (a0_4 : Int) (a0_5 : ByteArray) (a0_6 : Int) (a0_7 : Int) (a0_8 : ByteArray) : Option (Bool) := if a0_0 < 1 then (squelchref30_Right.j0 k a0_0 true a0_0 a0_1 a0_2 a0_3 a0_4 a0_5 a0_6 a0_7 a0_8) else (if a0_0 > 11 then (squelchref30_Right.j0 k a0_0 true a0_0 a0_1 a0_2 a0_3 a0_4 a0_5 a0_6 a0_7 a0_8) else ((squelchref30_fits.f a0_1).bind fun t188 => (if t188 = true then ((squelchref30_fits.f a0_2).bind fun t189 => (if t189 = true then ((squelchref30_fits.f a0_3).bind fun t190 => (if t190 = true then ((squelchref30_fits.f a0_4).bind fun t191 => (if t191 = true then ((squelchref30_fits.f a0_6).bind fun t192 => (if t192 = true then ((squelchref30_fits.f a0_7).bind fun t193 => (if t193 = true then (if (a0_5.size : Int) > 300 then (squelchref30_Right.j0 k a0_0 true a0_0 a0_1 a0_2 a0_3 a0_4 a0_5 a0_6 a0_7 a0_8) else (squelchref30_Right.j0 k a0_0 (decide ((a0_8.size : Int) > 16)) a0_0 a0_1 a0_2 a0_3 a0_4 a0_5 a0_6 a0_7 a0_8)) else (squelchref30_Right.j0 k a0_0 true a0_0 a0_1 a0_2 a0_3 a0_4 a0_5 a0_6 a0_7 a0_8))) else (squelchref30_Right.j0 k a0_0 true a0_0 a0_1 a0_2 a0_3 a0_4 a0_5 a0_6 a0_7 a0_8))) else (squelchref30_Right.j0 k a0_0 true a0_0 a0_1 a0_2 a0_3 a0_4 a0_5 a0_6 a0_7 a0_8))) else (squelchref30_Right.j0 k a0_0 true a0_0 a0_1 a0_2 a0_3 a0_4 a0_5 a0_6 a0_7 a0_8))) else (squelchref30_Right.j0 k a0_0 true a0_0 a0_1 a0_2 a0_3 a0_4 a0_5 a0_6 a0_7 a0_8))) else (squelchref30_Right.j0 k a0_0 true a0_0 a0_1 a0_2 a0_3 a0_4 a0_5 a0_6 a0_7 a0_8))))
end Go.Proofs.YtndgaeldndgioaaGreatDoor.QAll
end

section
/- squelchref30.Parse, walked by hand: what all kinds share. -/
set_option linter.unusedVariables false
set_option linter.unusedSimpArgs false
namespace Go.Proofs.YtndgaeldndgioaaGreatDoor.QAll
open Go.RowKit Go.Proofs.YtndgaeldndgioaaGreatDoorW.PrintWords Go.Proofs.YtndgaeldndgioaaGreatDoorW.PrintLast Go.Proofs.YtndgaeldndgioaaGreatDoorW.PrintMore

/-- The kind that the names up to one tell. -/
def kindUp (l0 : ByteArray) : Nat → Nat
  | 0 => 0
  | j + 1 => if nameOf (j + 1) = l0 then j + 1 else kindUp l0 j
def z9 : Array Value := #[.int .i64 0, .int .i64 0, .int .i64 0, .int .i64 0, .int .i64 0, .string ⟨#[]⟩, .int .i64 0, .int .i64 0, .string ⟨#[]⟩]
theorem set_ne {W : World} {g i : Nat} {o : Option Obj} (h : W.heap[i]? = o) (hne : ¬ g = i) (k : Nat) (u : Value) : (W.setCell ⟨g, k, none⟩ u).heap[i]? = o := by
  simp [World.setCell, Array.getElem?_modify, hne, h]
theorem toList_ne {p s : ByteArray} (hq : ¬ p = s) : (p.toList == s.toList) = false := beq_eq_false_iff_ne.2 (fun h => hq (by
  rw [Go.ByteArray.toList_eq, Go.ByteArray.toList_eq] at h
  cases p; cases s
  congr 1
  exact Array.ext' h))
theorem cell_of {W : World} {g j : Nat} {cs : Array Value} {t : TypeId} {v : Value} (h : W.heap[g]? = some (.cells cs t (0, 0))) (hv : cs[j]? = some v) : W.cell? ⟨g, j, none⟩ = some v := by
  simp [World.cell?, h, hv]
end Go.Proofs.YtndgaeldndgioaaGreatDoor.QAll
end

section
/- squelchref30.Parse, walked by hand: a line of kind 1. -/
set_option linter.unusedVariables false
set_option linter.unusedSimpArgs false
namespace Go.Proofs.YtndgaeldndgioaaGreatDoor.QAll
open Go.RowKit Go.Proofs.YtndgaeldndgioaaGreatDoorW.PrintWords Go.Proofs.YtndgaeldndgioaaGreatDoorW.PrintLast Go.Proofs.YtndgaeldndgioaaGreatDoorW.PrintMore
end Go.Proofs.YtndgaeldndgioaaGreatDoor.QAll
end

section
/- squelchref30.Parse, walked by hand: a line of kind 2. -/
set_option linter.unusedVariables false
set_option linter.unusedSimpArgs false
namespace Go.Proofs.YtndgaeldndgioaaGreatDoor.QAll
open Go.RowKit Go.Proofs.YtndgaeldndgioaaGreatDoorW.PrintWords Go.Proofs.YtndgaeldndgioaaGreatDoorW.PrintLast Go.Proofs.YtndgaeldndgioaaGreatDoorW.PrintMore
end Go.Proofs.YtndgaeldndgioaaGreatDoor.QAll
end

section
/- squelchref30.Parse, walked by hand: a line of kind 3. -/
set_option linter.unusedVariables false
set_option linter.unusedSimpArgs false
namespace Go.Proofs.YtndgaeldndgioaaGreatDoor.QAll
open Go.RowKit Go.Proofs.YtndgaeldndgioaaGreatDoorW.PrintWords Go.Proofs.YtndgaeldndgioaaGreatDoorW.PrintLast Go.Proofs.YtndgaeldndgioaaGreatDoorW.PrintMore
end Go.Proofs.YtndgaeldndgioaaGreatDoor.QAll
end

section
/- squelchref30.Parse, walked by hand: a line of kind 4. -/
set_option linter.unusedVariables false
set_option linter.unusedSimpArgs false
namespace Go.Proofs.YtndgaeldndgioaaGreatDoor.QAll
open Go.RowKit Go.Proofs.YtndgaeldndgioaaGreatDoorW.PrintWords Go.Proofs.YtndgaeldndgioaaGreatDoorW.PrintLast Go.Proofs.YtndgaeldndgioaaGreatDoorW.PrintMore
end Go.Proofs.YtndgaeldndgioaaGreatDoor.QAll
end

section
/- squelchref30.Parse, walked by hand: a line of kind 5. -/
set_option linter.unusedVariables false
set_option linter.unusedSimpArgs false
namespace Go.Proofs.YtndgaeldndgioaaGreatDoor.QAll
open Go.RowKit Go.Proofs.YtndgaeldndgioaaGreatDoorW.PrintWords Go.Proofs.YtndgaeldndgioaaGreatDoorW.PrintLast Go.Proofs.YtndgaeldndgioaaGreatDoorW.PrintMore
end Go.Proofs.YtndgaeldndgioaaGreatDoor.QAll
end

section
/- squelchref30.Parse, walked by hand: a line of kind 6. -/
set_option linter.unusedVariables false
set_option linter.unusedSimpArgs false
namespace Go.Proofs.YtndgaeldndgioaaGreatDoor.QAll
open Go.RowKit Go.Proofs.YtndgaeldndgioaaGreatDoorW.PrintWords Go.Proofs.YtndgaeldndgioaaGreatDoorW.PrintLast Go.Proofs.YtndgaeldndgioaaGreatDoorW.PrintMore
end Go.Proofs.YtndgaeldndgioaaGreatDoor.QAll
end

section
/- squelchref30.Parse, walked by hand: a line of kind 7. -/
set_option linter.unusedVariables false
set_option linter.unusedSimpArgs false
namespace Go.Proofs.YtndgaeldndgioaaGreatDoor.QAll
open Go.RowKit Go.Proofs.YtndgaeldndgioaaGreatDoorW.PrintWords Go.Proofs.YtndgaeldndgioaaGreatDoorW.PrintLast Go.Proofs.YtndgaeldndgioaaGreatDoorW.PrintMore
end Go.Proofs.YtndgaeldndgioaaGreatDoor.QAll
end

section
/- squelchref30.Parse, walked by hand: a line of kind 8. -/
set_option linter.unusedVariables false
set_option linter.unusedSimpArgs false
namespace Go.Proofs.YtndgaeldndgioaaGreatDoor.QAll
open Go.RowKit Go.Proofs.YtndgaeldndgioaaGreatDoorW.PrintWords Go.Proofs.YtndgaeldndgioaaGreatDoorW.PrintLast Go.Proofs.YtndgaeldndgioaaGreatDoorW.PrintMore
end Go.Proofs.YtndgaeldndgioaaGreatDoor.QAll
end

section
/- squelchref30.Parse, walked by hand: a line of kind 9. -/
set_option linter.unusedVariables false
set_option linter.unusedSimpArgs false
namespace Go.Proofs.YtndgaeldndgioaaGreatDoor.QAll
open Go.RowKit Go.Proofs.YtndgaeldndgioaaGreatDoorW.PrintWords Go.Proofs.YtndgaeldndgioaaGreatDoorW.PrintLast Go.Proofs.YtndgaeldndgioaaGreatDoorW.PrintMore
end Go.Proofs.YtndgaeldndgioaaGreatDoor.QAll
end

section
/- squelchref30.Parse, walked by hand: a line of kind 10. -/
set_option linter.unusedVariables false
set_option linter.unusedSimpArgs false
namespace Go.Proofs.YtndgaeldndgioaaGreatDoor.QAll
open Go.RowKit Go.Proofs.YtndgaeldndgioaaGreatDoorW.PrintWords Go.Proofs.YtndgaeldndgioaaGreatDoorW.PrintLast Go.Proofs.YtndgaeldndgioaaGreatDoorW.PrintMore
end Go.Proofs.YtndgaeldndgioaaGreatDoor.QAll
end

section
/- squelchref30.Parse, walked by hand: a line of kind 11. -/
set_option linter.unusedVariables false
set_option linter.unusedSimpArgs false
namespace Go.Proofs.YtndgaeldndgioaaGreatDoor.QAll
open Go.RowKit Go.Proofs.YtndgaeldndgioaaGreatDoorW.PrintWords Go.Proofs.YtndgaeldndgioaaGreatDoorW.PrintLast Go.Proofs.YtndgaeldndgioaaGreatDoorW.PrintMore
end Go.Proofs.YtndgaeldndgioaaGreatDoor.QAll
end

section
/- squelchref30.Parse, walked by hand: a line of no kind, or of another length. -/
set_option linter.unusedVariables false
set_option linter.unusedSimpArgs false
namespace Go.Proofs.YtndgaeldndgioaaGreatDoor.QAll
open Go.RowKit Go.Proofs.YtndgaeldndgioaaGreatDoorW.PrintWords Go.Proofs.YtndgaeldndgioaaGreatDoorW.PrintLast Go.Proofs.YtndgaeldndgioaaGreatDoorW.PrintMore
end Go.Proofs.YtndgaeldndgioaaGreatDoor.QAll
end

section
/- squelchref30.Parse, walked by hand, of any line. -/
set_option linter.unusedVariables false
set_option linter.unusedSimpArgs false
namespace Go.Proofs.YtndgaeldndgioaaGreatDoor.QAll
open Go.RowKit Go.Proofs.YtndgaeldndgioaaGreatDoorW.PrintWords Go.Proofs.YtndgaeldndgioaaGreatDoorW.PrintLast Go.Proofs.YtndgaeldndgioaaGreatDoorW.PrintMore
/-- The reference's event. -/
structure Rv where
  k : Int
  a : Int
  b : Int
  n : Int
  m : Int
  s : ByteArray
  x : Int
  y : Int
  d : ByteArray
end Go.Proofs.YtndgaeldndgioaaGreatDoor.QAll
end

section
/- The reference's Right, Print and reading, plainly, by kinds. -/
set_option linter.unusedVariables false
set_option linter.unusedSimpArgs false
set_option maxHeartbeats 1000000
namespace Go.Proofs.YtndgaeldndgioaaGreatDoor.Pure
open Go.RowKit Go.Proofs.YtndgaeldndgioaaGreatDoor.QAll Go.Proofs.YtndgaeldndgioaaGreatDoorW.PrintWords Go.Proofs.YtndgaeldndgioaaGreatDoorW.PrintLast
end Go.Proofs.YtndgaeldndgioaaGreatDoor.Pure
end

section
/- Both take the same lines, and tell the same events: the reference's side, by kinds. -/
set_option linter.unusedVariables false
set_option linter.unusedSimpArgs false
set_option maxHeartbeats 1000000
namespace Go.Proofs.YtndgaeldndgioaaGreatDoor.Pure
open Go.RowKit Go.Proofs.YtndgaeldndgioaaGreatDoor.QAll Go.Proofs.YtndgaeldndgioaaGreatDoorW.PrintWords Go.Proofs.YtndgaeldndgioaaGreatDoorW.PrintLast
def plain (e : Ev) : Rv := ⟨e.k, e.a, e.b, e.n, e.m, e.s, e.x, e.y, strOfNums e.d⟩
end Go.Proofs.YtndgaeldndgioaaGreatDoor.Pure
end

section
/- Both take the same lines, and tell the same events. -/
set_option linter.unusedVariables false
set_option linter.unusedSimpArgs false
set_option maxHeartbeats 1000000
namespace Go.Proofs.YtndgaeldndgioaaGreatDoor.Pure
open Go.RowKit Go.Proofs.YtndgaeldndgioaaGreatDoor.QAll Go.Proofs.YtndgaeldndgioaaGreatDoorW.PrintWords Go.Proofs.YtndgaeldndgioaaGreatDoorW.PrintLast
theorem up_name_all : ((List.range 12).all fun k => decide (kindUp (nameOf k) 11 = k)) = true := by kernel_rfl
theorem up_name (k : Nat) (hk : k < 12) : kindUp (nameOf k) 11 = k := of_decide_eq_true (List.all_eq_true.1 up_name_all k (List.mem_range.2 hk))
end Go.Proofs.YtndgaeldndgioaaGreatDoor.Pure
end

section
/- squelchlaw30.awake, walked by hand: the example is as the document has it. -/
set_option linter.unusedVariables false
set_option linter.unusedSimpArgs false
namespace Go.Proofs.YtndgaeldndgioaaGreatDoor.QAll
open Go.RowKit Go.Proofs.YtndgaeldndgioaaGreatDoorW.PrintWords Go.Proofs.YtndgaeldndgioaaGreatDoorW.PrintLast Go.Proofs.YtndgaeldndgioaaGreatDoorW.PrintMore
open Go.Proofs.YtndgaeldndgioaaGreatDoor.Fl
attribute [local go_sem] run_store_complex
def ex0 : ByteArray := ⟨#[75, 69, 89, 83, 32, 49, 32, 61, 99, 37, 50, 48, 98, 37, 48, 68]⟩
def exE : Ev := ⟨1, 1, 0, 0, 0, ⟨#[99, 32, 98, 13]⟩, 0, 0, []⟩
theorem ex_DE : Pure.DE exE 1 := ⟨by decide, by decide, ⟨by decide, by decide, by decide, by decide, by decide, by decide, by decide, fun z hz => absurd hz List.not_mem_nil, Nat.zero_le 90000⟩, ⟨rfl, fun h => absurd (by decide) h, fun _ => rfl, fun _ => rfl, fun _ => rfl, fun _ => rfl, fun _ => rfl, fun h => absurd (by decide) h, fun _ => rfl⟩⟩
theorem ex_ok : Pure.okE exE 1 = true := by kernel_rfl
theorem ex_ln : Pure.lnE exE 1 = ex0 := by kernel_rfl
theorem ex_told : Told exE 1 ex0 true := by
  have h := Pure.told_of exE 1 ex_DE
  rw [ex_ok, if_pos rfl, ex_ln] at h
  exact h
theorem ex_parse (w : World) (hE : EnvW w) : Calls Tryz.prog 7 #[.string ex0] w fun r w' => ∃ A c, r = .returned (.tuple #[evV exE A c, .int .i64 0]) ∧ (Kd.int .u8).R 5 w' w.heap.size (fun _ => True) (.slice A 0 c) [] ∧ Below w.heap.size w w' := by
  obtain ⟨out, hs, hc⟩ := Pure.script_parse ex0 (by decide)
  rcases hs with ⟨k, hD, hok, hl, h0⟩ | ⟨_, hn⟩
  · have e1 := Pure.ln_split out.1 k hD
    have e2 := Pure.ln_split exE 1 ex_DE
    rw [hl] at e1
    rw [ex_ln, e1] at e2
    injection e2 with n1 n2
    have hk : k = 1 := by
      have a1 := Pure.up_name k hD.k12
      rw [n1, Pure.up_name 1 (by decide)] at a1
      exact a1.symm
    subst hk
    have b1 := Pure.read_back out.1 1 hD hok
    rw [n2, Pure.read_back exE 1 ex_DE ex_ok] at b1
    have b2 : exE = out.1 := (Prod.mk.inj (Option.some.inj b1)).1
    have := hc w hE
    rw [← b2, h0] at this
    exact this
  · exact absurd ex_ln (hn exE 1 ex_DE ex_ok)
theorem exV (A : Option Addr) (c : Nat) : evV exE A c = .agg #[.int .i64 1, .int .i64 1, .int .i64 0, .int .i64 0, .int .i64 0, .string ⟨#[99, 32, 98, 13]⟩, .complex .f64 0 0, .slice A 0 c] := by
  unfold evV exE
  simp only [fl_0]
  rfl
set_option maxHeartbeats 8000000 in
set_option maxRecDepth 100000 in
theorem awake_calls (w : World) (hE : EnvW w) : Calls Tryz.prog 6 #[] w fun r w' => r = .returned (.bool true) ∧ Below w.heap.size w w' := by
  have HE := Aside0.mk hE
  have HP := Aside0.mk (fun (W : World) (hb : Below w.heap.size w W) => ex_parse W (hE.below hb))
  have HR := Aside0.mk (fun (W : World) (hb : Below w.heap.size w W) => print_told exE 1 ex0 true none 0 W (hE.below hb) ex_told (Kd.C_nil _ W))
  clear hE
  simp only [exV, if_pos] at HP HR
  unfold ex0 at HP HR
  go_enter Tryz.func6, Tryz.ntmps6
  go_wp2_with (fail)
  (with_reducible refine (HP.out _ ((Below.refl _ _).alloc (Nat.le_refl _) _)).mono ?_)
  rintro r w2 ⟨A, c, rfl, hR, hb2⟩
  have HX2 := Aside0.mk ((hb2.block w.heap.size (by simp)).trans (heap_alloc_new w _))
  have HB2 := Aside0.mk (below_step ((Below.refl w.heap.size w).alloc (Nat.le_refl _) _) hb2)
  have hlt : w.heap.size < w2.heap.size := Nat.lt_of_lt_of_le (by simp) hb2.size
  clear hb2 hR
  have HX3 := Aside0.mk (heap_step_alloc HX2.out hlt (.cells #[.int .i64 1, .int .i64 1, .int .i64 0, .int .i64 0, .int .i64 0, .string ⟨#[99, 32, 98, 13]⟩, .complex .f64 0 0, .slice A 0 c] 26 (0, 0)))
  have HB3 := Aside0.mk (below_alloc HB2.out (.cells #[.int .i64 1, .int .i64 1, .int .i64 0, .int .i64 0, .int .i64 0, .string ⟨#[99, 32, 98, 13]⟩, .complex .f64 0 0, .slice A 0 c] 26 (0, 0)))
  have HG3 := Aside0.mk (heap_alloc_new w2 (.cells #[.int .i64 1, .int .i64 1, .int .i64 0, .int .i64 0, .int .i64 0, .string ⟨#[99, 32, 98, 13]⟩, .complex .f64 0 0, .slice A 0 c] 26 (0, 0)))
  obtain ⟨w3, hw3⟩ : ∃ w3, w2.alloc (.cells #[.int .i64 1, .int .i64 1, .int .i64 0, .int .i64 0, .int .i64 0, .string ⟨#[99, 32, 98, 13]⟩, .complex .f64 0 0, .slice A 0 c] 26 (0, 0)) = w3 := ⟨_, rfl⟩
  rw [hw3] at HX3 HB3 HG3
  obtain ⟨k0, k1, k2, k3, k4, k5, k6, k7⟩ := cells8 HX3.out
  go_wp2_with (fail)
  (with_reducible refine (HR.out _ HB3.out).mono ?_)
  rintro r w4 ⟨rfl, hb4⟩
  have HG4 := Aside0.mk ((hb4.block _ (lt_of_some HG3.out)).trans HG3.out)
  have HB4 := Aside0.mk (below_then HB3.out (Nat.le_of_lt (lt_of_some HX3.out)) hb4)
  clear k0 k1 k2 k3 k4 k5 k6 k7 hw3
  obtain ⟨k0, k1, k2, k3, k4, k5, k6, k7⟩ := cells8 HG4.out
  go_wp2_with (fail)
  go_ret
  exact ⟨rfl, HB4.out⟩
end Go.Proofs.YtndgaeldndgioaaGreatDoor.QAll
end

section
/- Walks, written by a program of this session (wip/pp): a Go function comes to what the Lean function beside it tells. -/
namespace Go.Proofs.YtndgaeldndgioaaGreatDoor.QAll
open Go.RowKit Go.Proofs.YtndgaeldndgioaaGreatDoorW.PrintWords Go.Proofs.YtndgaeldndgioaaGreatDoorW.PrintLast Go.Proofs.YtndgaeldndgioaaGreatDoorW.PrintMore
attribute [local go_sem] max2_int min2_int max_two min_two max_three min_three max_four min_four
set_option linter.unusedVariables false
set_option linter.unusedSimpArgs false

def call_letter.f (a0 : Int) : Option (Bool) := if a0 ≥ 65 then (if a0 ≤ 90 then (some true) else (if a0 ≥ 48 then (some (decide (a0 ≤ 57))) else (some false))) else (if a0 ≥ 48 then (some (decide (a0 ≤ 57))) else (some false))
set_option maxHeartbeats 8000000 in
set_option maxRecDepth 100000 in
theorem call_letter.calls (a0 : Int) (r : Bool) (w : World) (h : call_letter.f a0 = some r) :
  Calls Tryz.prog 82 #[.int .u8 a0] w fun e w' => e = .returned (.bool r) ∧ Drawn0 w w' := by
 have H : (if a0 ≥ 65 then (if a0 ≤ 90 then (some true) else (if a0 ≥ 48 then (some (decide (a0 ≤ 57))) else (some false))) else (if a0 ≥ 48 then (some (decide (a0 ≤ 57))) else (some false))) = some r := h
 clear h
 by_cases c2 : a0 ≥ 65
 ·rw [if_pos c2] at H
  have c2b0 : decide (65 ≤ a0) = true := decide_eq_true c2
  clear c2
  by_cases c3 : a0 ≤ 90
  ·rw [if_pos c3] at H
   have c3b0 : decide (a0 ≤ 90) = true := decide_eq_true c3
   clear c3
   obtain rfl := Option.some.inj H
   go_enter Tryz.func82, Tryz.ntmps82
   go_wp2
   go_ret
   exact ⟨by first | rfl | (simp; done) | (simp [*]; done) | (simp; exact (fun l : List UInt8 => (by cases l <;> rfl : l.isEmpty = !(l != []))) _), by repeat (first | exact Drawn0.refl _ | apply Drawn0.step)⟩
  ·rw [if_neg c3] at H
   have c3b0 : decide (a0 ≤ 90) = false := decide_eq_false c3
   clear c3
   by_cases c4 : a0 ≥ 48
   ·rw [if_pos c4] at H
    have c4b0 : decide (48 ≤ a0) = true := decide_eq_true c4
    clear c4
    obtain rfl := Option.some.inj H
    go_enter Tryz.func82, Tryz.ntmps82
    go_wp2
    go_ret
    exact ⟨by first | rfl | (simp; done) | (simp [*]; done) | (simp; exact (fun l : List UInt8 => (by cases l <;> rfl : l.isEmpty = !(l != []))) _), by repeat (first | exact Drawn0.refl _ | apply Drawn0.step)⟩
   ·rw [if_neg c4] at H
    have c4b0 : decide (48 ≤ a0) = false := decide_eq_false c4
    clear c4
    obtain rfl := Option.some.inj H
    go_enter Tryz.func82, Tryz.ntmps82
    go_wp2
    go_ret
    exact ⟨by first | rfl | (simp; done) | (simp [*]; done) | (simp; exact (fun l : List UInt8 => (by cases l <;> rfl : l.isEmpty = !(l != []))) _), by repeat (first | exact Drawn0.refl _ | apply Drawn0.step)⟩
 ·rw [if_neg c2] at H
  have c2b0 : decide (65 ≤ a0) = false := decide_eq_false c2
  clear c2
  by_cases c5 : a0 ≥ 48
  ·rw [if_pos c5] at H
   have c5b0 : decide (48 ≤ a0) = true := decide_eq_true c5
   clear c5
   obtain rfl := Option.some.inj H
   go_enter Tryz.func82, Tryz.ntmps82
   go_wp2
   go_ret
   exact ⟨by first | rfl | (simp; done) | (simp [*]; done) | (simp; exact (fun l : List UInt8 => (by cases l <;> rfl : l.isEmpty = !(l != []))) _), by repeat (first | exact Drawn0.refl _ | apply Drawn0.step)⟩
  ·rw [if_neg c5] at H
   have c5b0 : decide (48 ≤ a0) = false := decide_eq_false c5
   clear c5
   obtain rfl := Option.some.inj H
   go_enter Tryz.func82, Tryz.ntmps82
   go_wp2
   go_ret
   exact ⟨by first | rfl | (simp; done) | (simp [*]; done) | (simp; exact (fun l : List UInt8 => (by cases l <;> rfl : l.isEmpty = !(l != []))) _), by repeat (first | exact Drawn0.refl _ | apply Drawn0.step)⟩

end Go.Proofs.YtndgaeldndgioaaGreatDoor.QAll
end

section
/- call.Right, walked by hand: it tells whether all bytes of the base are letters or digits, and the lengths and the number are in their ranges, for every call. -/
set_option linter.unusedVariables false
set_option linter.unusedSimpArgs false
namespace Go.Proofs.YtndgaeldndgioaaGreatDoor.QAll
open Go.RowKit Go.Proofs.YtndgaeldndgioaaGreatDoorW.PrintWords Go.Proofs.YtndgaeldndgioaaGreatDoorW.PrintLast Go.Proofs.YtndgaeldndgioaaGreatDoorW.PrintMore

/-- May the byte c stand in a call? -/
def letB (c : Int) : Bool := decide (65 ≤ c ∧ c ≤ 90 ∨ 48 ≤ c ∧ c ≤ 57)
theorem letter_f (c : Int) : call_letter.f c = some (letB c) := by
  unfold call_letter.f letB
  repeat' split
  all_goals (congr 1; first | exact decide_eq_decide.2 (by omega) | (symm; exact decide_eq_true (by omega)) | (symm; exact decide_eq_false (by omega)))
/-- All of the first k bytes are letters or digits. -/
def letsTo (s : ByteArray) (k : Nat) : Prop := ∀ j : Nat, j < k → letB (bt s j) = true
def letsB (s : ByteArray) : Bool := s.data.toList.all fun c => letB c.toNat
theorem bt_data (s : ByteArray) (j : Nat) (h : j < s.size) : bt s j = ((s.data.toList[j]'(by simpa using h)).toNat : Int) := by
  unfold bt
  rw [dif_pos (by simpa using h)]
  rfl
theorem letsB_true {s : ByteArray} (h : letsTo s s.size) : letsB s = true := by
  unfold letsB
  rw [List.all_eq_true]
  intro c hc
  obtain ⟨j, hj, rfl⟩ := List.getElem_of_mem hc
  have hj' : j < s.size := by simpa using hj
  have := h j hj'
  rw [bt_data s j hj'] at this
  exact this
theorem letsB_false {s : ByteArray} (k : Nat) (hk : k < s.size) (h : letB (bt s k) = false) : letsB s = false := by
  unfold letsB
  rw [List.all_eq_false]
  refine ⟨_, List.getElem_mem (by simpa using hk : k < s.data.toList.length), ?_⟩
  rw [bt_data s k hk] at h
  rw [h]
  decide
def rightB (s : ByteArray) (n : Int) : Bool := letsB s && (decide (1 ≤ s.size) && (decide (s.size ≤ 6) && (decide (0 ≤ n) && decide (n ≤ 15))))
def call_Right.f (a0_0 : ByteArray) (a0_1 : Int) : Option Bool := if a0_0.size ≤ 9223372036854775807 then some (rightB a0_0 a0_1) else none

set_option maxHeartbeats 1000000 in
set_option maxRecDepth 100000 in
theorem call_Right.calls (a0_0 : ByteArray) (a0_1 : Int) (r : Bool) (w : World) (h : call_Right.f a0_0 a0_1 = some r) :
    Calls Tryz.prog 57 #[.agg #[.string a0_0, .int .i64 a0_1]] w fun e w' => e = .returned (.bool r) ∧ Below w.heap.size w w' := by
  unfold call_Right.f at h
  split at h
  case isFalse => exact absurd h (by simp)
  rename_i hs
  have HR := Aside0.mk (Option.some.inj h)
  clear h
  have hu37 := Tryz.underlying37
  have kb := fun W => print_bytes (P := Tryz.prog) 9 24 5 Tryz.underlying9 Tryz.underlying24 Tryz.underlying5 a0_0 W
  go_enter Tryz.func57, Tryz.ntmps57
  go_wp2
  go_loopw [9] (fun i wr => ∃ k : Nat, k ≤ a0_0.size ∧ i = .int .i64 k ∧ Aside0 (letsTo a0_0 k) ∧ Aside0 (Below w.heap.size w wr) ∧ (wr.cell? ⟨w.heap.size, 0, none⟩ = some (.string a0_0)) ∧ (wr.cell? ⟨w.heap.size, 1, none⟩ = some (.int .i64 a0_1)) ∧
      Aside0 (∀ j : Nat, j < a0_0.size → wr.cell? ⟨w.heap.size + 1, j, none⟩ = some (.int .u8 (bt a0_0 j)))) (fun i _ => a0_0.size - (intOf i).toNat)
  case atStart =>
    refine ⟨0, Nat.zero_le _, rfl, ⟨fun j hj => absurd hj (by omega)⟩, ⟨?_⟩, ?_, ?_, ⟨?_⟩⟩
    · exact bytes_below ((Below.refl _ _).alloc (Nat.le_refl _) _) (by simp) _ _
    · rw [Lib.bytesWorld_old _ _ _ _ (by simp)]; simp
    · rw [Lib.bytesWorld_old _ _ _ _ (by simp)]; simp
    · intro j hj
      have z := Lib.bytesWorld_cell (w.alloc (Obj.cells #[Value.string a0_0, Value.int IntKind.i64 a0_1] 37)) 5 a0_0 j hj
      have e : (w.alloc (Obj.cells #[Value.string a0_0, Value.int IntKind.i64 a0_1] 37)).heap.size = w.heap.size + 1 := by simp
      rw [e] at z
      rw [z, bt_data a0_0 j hj, List.getD_eq_getElem?_getD, List.getElem?_eq_getElem (by simpa using hj)]
      rfl
  case round =>
    obtain ⟨k, hk, rfl, HL, HB, hc0, hc1, HC⟩ := hrel
    by_cases hlt : k < a0_0.size
    · have hcell := HC.out k hlt
      have hb := bt_range a0_0 k
      have hcb := Aside0.mk hb
      cases hl : letB (bt a0_0 k) with
      | true =>
        have HL1 := Aside0.mk hl
        clear hl hb
        go_wp2_with (go_at_call 82; (with_reducible refine (call_letter.calls (bt a0_0 k) true _ (by rw [letter_f, HL1.out])).mono ?_); rintro e w' ⟨rfl, ⟨nd, rfl⟩⟩)
        go_roundw
        case rel =>
          refine ⟨k + 1, by omega, by go_num, ⟨fun j hj => ?_⟩, ⟨pw_below_drewN HB.out _⟩, hc0, hc1, ⟨HC.out⟩⟩
          by_cases e : j = k
          · subst e; exact HL1.out
          · exact HL.out j (by omega)
        case measure => simp [intOf]; omega
      | false =>
        have HL1 := Aside0.mk hl
        clear hl hb
        go_wp2_with (go_at_call 82; (with_reducible refine (call_letter.calls (bt a0_0 k) false _ (by rw [letter_f, HL1.out])).mono ?_); rintro e w' ⟨rfl, ⟨nd, rfl⟩⟩)
        go_ret
        refine ⟨?_, pw_below_drewN HB.out _⟩
        have e : rightB a0_0 a0_1 = false := by unfold rightB; rw [letsB_false k hlt HL1.out, Bool.false_and]
        rw [← HR.out, e]; rfl
    · obtain rfl : k = a0_0.size := by omega
      have HX := Aside0.mk (show rightB a0_0 a0_1 = (decide (1 ≤ a0_0.size) && (decide (a0_0.size ≤ 6) && (decide (0 ≤ a0_1) && decide (a0_1 ≤ 15)))) by unfold rightB; rw [letsB_true HL.out, Bool.true_and])
      clear HL hk hlt
      by_cases h1 : 1 ≤ a0_0.size
      · by_cases h2 : a0_0.size ≤ 6
        · by_cases h3 : 0 ≤ a0_1
          · by_cases h4 : a0_1 ≤ 15
            · have HE := Aside0.mk (show rightB a0_0 a0_1 = true by rw [HX.out]; simp [h1, h2, h3, h4])
              go_wp2
              go_ret
              exact ⟨by rw [← HR.out, HE.out]; rfl, HB.out⟩
            · have HE := Aside0.mk (show rightB a0_0 a0_1 = false by rw [HX.out]; simp [h1, h2, h3, h4])
              go_wp2
              go_ret
              exact ⟨by rw [← HR.out, HE.out]; rfl, HB.out⟩
          · have HE := Aside0.mk (show rightB a0_0 a0_1 = false by rw [HX.out]; simp [h1, h2, h3])
            go_wp2
            go_ret
            exact ⟨by rw [← HR.out, HE.out]; rfl, HB.out⟩
        · have HE := Aside0.mk (show rightB a0_0 a0_1 = false by rw [HX.out]; simp [h1, h2])
          go_wp2
          go_ret
          exact ⟨by rw [← HR.out, HE.out]; rfl, HB.out⟩
      · have HE := Aside0.mk (show rightB a0_0 a0_1 = false by rw [HX.out]; simp [h1])
        go_wp2
        go_ret
        exact ⟨by rw [← HR.out, HE.out]; rfl, HB.out⟩
end Go.Proofs.YtndgaeldndgioaaGreatDoor.QAll
end

section
/- call.Distinct, walked by hand: are calls right, and no two alike? -/
set_option linter.unusedVariables false
set_option linter.unusedSimpArgs false
namespace Go.Proofs.YtndgaeldndgioaaGreatDoor.QAll
open Go.RowKit Go.Proofs.YtndgaeldndgioaaGreatDoorW.PrintWords Go.Proofs.YtndgaeldndgioaaGreatDoorW.PrintLast Go.Proofs.YtndgaeldndgioaaGreatDoorW.PrintMore

theorem typesN : ∃ m, Tryz.prog.types.size + 1 = m + 2 := by
  have h : 2 ≤ Tryz.prog.types.size := of_decide_eq_true (by kernel_rfl)
  exact ⟨Tryz.prog.types.size - 1, by omega⟩
theorem laid23 : laidOutB Tryz.prog = true := by kernel_rfl
theorem keyed23 : Maps.Keyed Tryz.prog 37 := Maps.Keyed.of_law (deep_law_laid laid23 (m := 10) (by decide) (of_decide_eq_true (by kernel_rfl)) (by kernel_rfl) (by kernel_rfl))
def ckey (d : S37) : Lit := .string (keyBytes [.string d.f0.data.toList, .int .i64 d.f1])
theorem cellsA : Tryz.prog.cellsOf 37 = 2 := by kernel_rfl
theorem cellsB : Tryz.prog.cellsOf 9 = 1 := by kernel_rfl
theorem cellsC : Tryz.prog.cellsOf 3 = 1 := by kernel_rfl
theorem keyType23 : Tryz.prog.keyType 37 = true := by kernel_rfl
theorem ckey_of (d : S37) (hs : d.f0.size ≤ maxLen) (hw : (Lit.int .i64 d.f1).wf = true) : keyOf Tryz.prog 37 (.agg #[.string d.f0, .int .i64 d.f1]) = some (ckey d) := by
  obtain ⟨m, hm⟩ := typesN
  have h23 := Tryz.underlying37
  have h9 := Tryz.underlying9
  have h3 := Tryz.underlying3
  unfold keyOf
  rw [h23]
  simp only [keyType23, Value.formed, h23, cellsA, hm]
  simp [Program.keyLits, h23, h9, h3, cellsA, cellsB, cellsC, hs, hw, Value.cells, ckey]
theorem plainElem_bool_inv {H : Type} {P : Program} {e : TypeId} (he : P.underlying e = some .bool) {v : Value} {x : Bool} {ps : List MemPlace} (h : plainElem (H := H) P e v = some (.lit (.bool x), ps)) : v = .bool x := by
  unfold plainElem at h
  rw [he] at h
  cases v <;> simp at h
  rw [h.1]
theorem two_cellD {w : World} {g : Nat} {a b : Value} {t : TypeId} (h : w.heap[g]? = some (.cells #[a, b] t (0, 0))) :
    w.cell? ⟨g, 0, none⟩ = some a ∧ w.cell? ⟨g, 1, none⟩ = some b ∧ w.frozen? ⟨g, 0, none⟩ = false ∧ w.frozen? ⟨g, 1, none⟩ = false := by
  simp [World.cell?, World.frozen?, h]
/-- Are two calls alike? -/
def eqC (c d : S37) : Bool := decide (c.f0 = d.f0) && decide (c.f1 = d.f1)
def distL : List S37 → List S37 → Bool
  | _, [] => true
  | seen, c :: r => rightB c.f0 c.f1 && (!(seen.any (fun d => eqC d c)) && distL (seen ++ [c]) r)
def call_Distinct.f (l0 : List S37) : Option Bool := if (decide (l0.length ≤ 1000000) && l0.all (fun d => decide (d.f0.size ≤ 9223372036854775807) && (Lit.int .i64 d.f1).wf)) = true then some (distL [] l0) else none
theorem drop_T37 (l : List S37) (k : Nat) (h : k < l.length) : l.drop k = rd_T37 l k :: l.drop (k + 1) := by
  rw [List.drop_eq_getElem_cons h]
  unfold rd_T37
  rw [Int.toNat_natCast, List.getD_eq_getElem?_getD, List.getElem?_eq_getElem h]
  rfl
theorem take_T23 (l : List S37) (k : Nat) (h : k < l.length) : l.take (k + 1) = l.take k ++ [rd_T37 l k] := by
  rw [List.take_add_one]
  congr 1
  unfold rd_T37
  rw [Int.toNat_natCast, List.getD_eq_getElem?_getD, List.getElem?_eq_getElem h]
  rfl
theorem owns_below {H : Type} {P : Program} {k : TypeId} {R : Value → Option (DataW H × List MemPlace)} {b n : Nat} {D : DataW H} {w w' : World} (h : w.ownsMap P k R b n D) (hb : Below w.heap.size w w') : w'.ownsMap P k R b n D :=
  h.kept (row := none) ⟨hb.os, hb.tape, hb.output, hb.size, fun k hk _ => hb.block k hk⟩ (by simp)
def OkC (d : S37) : Prop := d.f0.size ≤ maxLen ∧ (Lit.int .i64 d.f1).wf = true
/-- What the map tells of calls. -/
def Tells (D : DataW Unit) (seen : List S37) : Prop := ∀ d : S37, OkC d → D.atKey (ckey d) (.lit (.bool false)) = .lit (.bool (seen.any (fun e => eqC e d)))
theorem tells_put {D : DataW Unit} {seen : List S37} (hD : Maps.IsMap D) (h : Tells D seen) (c : S37) (hc : OkC c) : Tells (D.put (ckey c) (.lit (.bool true))) (seen ++ [c]) := by
  intro d hd
  rw [List.any_append]
  by_cases he : d = c
  · subst he
    rw [Maps.atKey_put_same hD (keyed23.key (ckey_of d hd.1 hd.2))]
    simp [eqC]
  · have hne : ckey d ≠ ckey c := by
      intro e
      have h1 := ckey_of d hd.1 hd.2
      have h2 := ckey_of c hc.1 hc.2
      rw [e] at h1
      have := keyed23.inj h1 h2
      simp only [Value.agg.injEq, Array.mk.injEq, List.cons.injEq, Value.string.injEq, Value.int.injEq, and_true, true_and] at this
      obtain ⟨x, y⟩ := d
      obtain ⟨u, v⟩ := c
      exact he (by rw [show x = u from this.1, show y = v from this.2])
    rw [Maps.atKey_put_other hne, h d hd]
    have : eqC c d = false := by
      unfold eqC
      obtain ⟨x, y⟩ := d
      obtain ⟨u, v⟩ := c
      rcases Bool.eq_false_or_eq_true (decide (u = x) && decide (v = y)) with h' | h'
      · rw [Bool.and_eq_true, decide_eq_true_eq, decide_eq_true_eq] at h'
        exact absurd (by rw [h'.1, h'.2]) he
      · exact h'
    simp [this]
set_option maxHeartbeats 1000000 in
set_option maxRecDepth 100000 in
theorem call_Distinct.calls (A0 : Option Addr) (c0 : Nat) (l0 : List (S37)) (r : Bool) (w : World) (hr0 : Kd.C k37 w A0 l0.length l0) (hc0 : l0.length ≤ c0) (h : call_Distinct.f l0 = some r) :
    Calls Tryz.prog 62 #[.slice A0 l0.length c0] w fun e w' => e = .returned (.bool r) ∧ Below w.heap.size w w' := by
  unfold call_Distinct.f at h
  split at h
  case isFalse => cases h
  rename_i hs
  have HR_ := Aside0.mk (Option.some.inj h)
  rw [Bool.and_eq_true, decide_eq_true_eq, List.all_eq_true] at hs
  obtain ⟨hl, hall⟩ := hs
  have HC := Aside0.mk hr0
  have HOK := Aside0.mk (show ∀ k : Nat, k < l0.length → OkC (rd_T37 l0 k) from fun k hk => by
    have := hall (rd_T37 l0 k) (by unfold rd_T37; rw [Int.toNat_natCast, List.getD_eq_getElem?_getD, List.getElem?_eq_getElem hk]; exact List.getElem_mem hk)
    rw [Bool.and_eq_true, decide_eq_true_eq] at this
    exact this)
  clear hr0 h hall
  have hu37 := Tryz.underlying37
  have hu187 := Tryz.underlying187
  have hmm := @run_makeMap Tryz.prog
  go_enter Tryz.func62, Tryz.ntmps62
  go_wp2_with (fail)
  have HOwn := Aside0.mk (World.ownsMap_made (H := Unit) w Tryz.prog 37 (plainElem Tryz.prog 4))
  have HB0 := Aside0.mk ((Below.refl w.heap.size w).alloc (Nat.le_refl _) (.map #[] 0))
  generalize w.alloc (.map #[] 0) = w1 at HOwn HB0 ⊢
  go_loopw [5, 9] (fun v5 v9 wr => ∃ (k : Nat) (D : DataW Unit), k ≤ l0.length ∧ v9 = .int .i64 k ∧ Aside0 (distL (l0.take k) (l0.drop k) = distL [] l0) ∧ Aside0 (wr.ownsMap Tryz.prog 37 (plainElem Tryz.prog 4) w.heap.size k D) ∧ Aside0 (Tells D (l0.take k)) ∧ Aside0 (Below w.heap.size w wr)) (fun v5 v9 _ => l0.length - (intOf v9).toNat)
  case atStart =>
    exact ⟨0, .map [], Nat.zero_le _, rfl, ⟨by rw [List.take_zero, List.drop_zero]⟩, HOwn, ⟨fun d _ => rfl⟩, HB0⟩
  case round =>
    clear HOwn HB0
    obtain ⟨k, D, hk, rfl, HT, HOwn, HTell, HB⟩ := hrel
    by_cases hlt : k < l0.length
    · obtain ⟨ad, rfl, x0, x1⟩ := at_T37 (Kd.C_below HC.out (HB.out)) k (by omega) (by omega)
      simp only [Int.toNat_natCast] at x0 x1
      have hok := HOK.out k hlt
      have HT2 := Aside0.mk (show distL [] l0 = (rightB (rd_T37 l0 k).f0 (rd_T37 l0 k).f1 && (!((l0.take k).any (fun d => eqC d (rd_T37 l0 k))) && distL (l0.take (k + 1)) (l0.drop (k + 1)))) by
        rw [← HT.out, drop_T37 l0 k hlt, take_T23 l0 k hlt]; rfl)
      clear HT
      go_wp2_with (fail)
      refine (call_Right.calls (rd_T37 l0 k).f0 (rd_T37 l0 k).f1 (rightB (rd_T37 l0 k).f0 (rd_T37 l0 k).f1) _ (by unfold call_Right.f; rw [if_pos (show (rd_T37 l0 k).f0.size ≤ 9223372036854775807 from hok.1)])).mono ?_
      rintro e w5 ⟨rfl, hb⟩
      have hbA : Below wr.heap.size wr w5 := below_then ((Below.refl _ _).alloc (Nat.le_refl _) _) (by simp) hb
      have HD5 := Aside0.mk ((hb.block wr.heap.size (by simp)).trans (heap_alloc_new wr _))
      have HOwn5 := Aside0.mk (owns_below HOwn.out hbA)
      have HB5 := Aside0.mk (below_then HB.out HB.out.size hbA)
      clear HOwn HB hb hbA x0 x1
      obtain ⟨d0, d1, _, _⟩ := two_cellD HD5.out
      have hw5 : w.heap.size + 1 ≤ w5.heap.size := by have := HOwn5.out.lt; omega
      cases hr : rightB (rd_T37 l0 k).f0 (rd_T37 l0 k).f1 with
      | false =>
        have hq := HT2.out
        rw [hr, Bool.false_and] at hq
        clear HT2
        go_wp2_with (fail)
        go_ret
        exact ⟨by rw [← HR_.out, hq]; rfl, HB5.out⟩
      | true =>
        obtain ⟨v, ps, hrun, hv⟩ := HOwn5.out.lookup keyed23 Tryz.underlying187 (show (zeroValue 4).run Tryz.prog w5 = .ok (.bool false) w5 from Tryz.zeroValue4 w5) (plainElem_bool Tryz.underlying4 false) (ckey_of (rd_T37 l0 k) hok.1 hok.2)
        rw [HTell.out (rd_T37 l0 k) hok] at hv
        obtain rfl := plainElem_bool_inv Tryz.underlying4 hv
        clear hv
        cases hsn : (l0.take k).any (fun e => eqC e (rd_T37 l0 k)) with
        | true =>
          rw [hsn] at hrun
          have hq := HT2.out
          rw [hr, hsn] at hq
          clear HT2
          go_wp2_with (fail)
          go_ret
          exact ⟨by rw [← HR_.out, hq]; rfl, HB5.out⟩
        | false =>
          rw [hsn] at hrun
          have hq := HT2.out
          rw [hr, hsn] at hq
          clear HT2
          have hkey := ckey_of (rd_T37 l0 k) hok.1 hok.2
          have hval := plainElem_bool (H := Unit) Tryz.underlying4 true
          have hkm : k < maxLen := by have : maxLen = 9223372036854775807 := rfl; omega
          have HNew := Aside0.mk (tells_put HOwn5.out.isMap HTell.out (rd_T37 l0 k) hok)
          have hown := HOwn5.out
          have HW := Aside0.mk (show wrap64 ((k : Int) + 1) = ((k + 1 : Nat) : Int) by unfold wrap64; omega)
          go_wp2_with (first | (at_mapUpdate; refine wpList_mapUpdate_own _ rfl _ _ _ 187 rfl 37 4 keyed23 Tryz.underlying187 _ w.heap.size k D rfl hown hkm _ _ (ckey (rd_T37 l0 k)) rfl rfl hkey (.lit (.bool true)) [] hval ?_; intro w6 hown6 hgrow6) | go_in)
          try rw [HW.out]
          exact ⟨⟨k + 1, _, by omega, by first | rfl | (congr 1), ⟨hq.symm⟩, ⟨hown6⟩, ⟨by rw [take_T23 l0 k hlt]; exact HNew.out⟩, ⟨HB5.out.grown hgrow6 HB5.out.size (fun j e => by cases e; exact Nat.le_refl _)⟩⟩, by simp only [intOf]; omega⟩
    · obtain rfl : k = l0.length := by omega
      go_wp2_with (fail)
      go_ret
      have h9 := HT.out
      rw [List.drop_length] at h9
      exact ⟨by rw [← HR_.out, ← h9]; rfl, HB.out⟩
end Go.Proofs.YtndgaeldndgioaaGreatDoor.QAll
end

section
/- call.upper, walked by hand: a word with its small letters made great, for every word. -/
set_option linter.unusedVariables false
set_option linter.unusedSimpArgs false
namespace Go.Proofs.YtndgaeldndgioaaGreatDoor.QAll
open Go.RowKit Go.Proofs.YtndgaeldndgioaaGreatDoorW.PrintWords Go.Proofs.YtndgaeldndgioaaGreatDoorW.PrintLast Go.Proofs.YtndgaeldndgioaaGreatDoorW.PrintMore

/-- A small letter made great. -/
def upI (c : Int) : Int := if 97 ≤ c ∧ c ≤ 122 then c - 97 + 65 else c
def upL (s : ByteArray) : List Int := (bytesOf s).map upI
def upperS (s : ByteArray) : ByteArray := strOfNums (upL s)
def call_upper.f (a0 : ByteArray) : Option ByteArray := if a0.size ≤ 9223372036854775807 then some (upperS a0) else none
/-- Behind k rounds: block B holds the first k made great, the others as they were. -/
def UpAt (s : ByteArray) (B k : Nat) (w : World) : Prop := ∃ cur m, w.heap[B]? = some (.cells cur 5 (m, m + 1)) ∧ s.size ≤ m ∧
  ∀ j : Nat, j < s.size → cur[j]? = some (.int .u8 (if j < k then upI (bt s j) else bt s j))
theorem UpAt.cell {s : ByteArray} {B k : Nat} {w : World} (h : UpAt s B k w) (j : Nat) (hj : j < s.size) : w.cell? ⟨B, j, none⟩ = some (.int .u8 (if j < k then upI (bt s j) else bt s j)) := by
  obtain ⟨cur, m, hb, hm, hc⟩ := h
  simp only [World.cell?, hb]
  exact hc j hj
theorem UpAt.frozen {s : ByteArray} {B k : Nat} {w : World} (h : UpAt s B k w) (j : Nat) (hj : j < s.size) : w.frozen? ⟨B, j, none⟩ = false := by
  obtain ⟨cur, m, hb, hm, hc⟩ := h
  simp only [World.frozen?, hb]
  simp
  omega
theorem UpAt.keep {s : ByteArray} {B k : Nat} {w : World} (h : UpAt s B k w) (hk : upI (bt s k) = bt s k) : UpAt s B (k + 1) w := by
  obtain ⟨cur, m, hb, hm, hc⟩ := h
  refine ⟨cur, m, hb, hm, fun j hj => ?_⟩
  rw [hc j hj]
  by_cases e : j = k
  · subst e; rw [if_neg (by omega), if_pos (by omega), hk]
  · by_cases e2 : j < k
    · rw [if_pos e2, if_pos (by omega)]
    · rw [if_neg e2, if_neg (by omega)]
theorem UpAt.store {s : ByteArray} {B k : Nat} {w : World} (h : UpAt s B k w) (hk : k < s.size) (x : Int) (hx : x = upI (bt s k)) : UpAt s B (k + 1) (w.setCell ⟨B, k, none⟩ (.int .u8 x)) := by
  obtain ⟨cur, m, hb, hm, hc⟩ := h
  refine ⟨cur.setIfInBounds k (.int .u8 x), m, ?_, hm, fun j hj => ?_⟩
  · simp [World.setCell, Array.getElem?_modify, hb]
  · rw [Array.getElem?_setIfInBounds]
    have hcj := hc j hj
    by_cases e : k = j
    · subst e
      have : k < cur.size := (Array.getElem?_eq_some_iff.1 hcj).1
      rw [if_pos rfl, if_pos this, if_pos (by omega), hx]
    · rw [if_neg e, hcj]
      by_cases e2 : j < k
      · rw [if_pos e2, if_pos (by omega)]
      · rw [if_neg e2, if_neg (by omega)]
theorem UpAt.new (s : ByteArray) (w : World) : UpAt s w.heap.size 0 (Lib.bytesWorld w 5 s) := by
  refine ⟨_, _, Lib.bytesWorld_at_new w 5 s, ?_, fun j hj => ?_⟩
  · simp [Lib.bytesCells]
  · have h := Lib.bytesWorld_cell w 5 s j hj
    simp only [World.cell?, Lib.bytesWorld_at_new] at h
    rw [if_neg (by omega)]
    have e : (s.data.toList.getD j 0).toNat = bt s j := by
      unfold bt
      rw [dif_pos (by simpa using hj), List.getD_eq_getElem?_getD, List.getElem?_eq_getElem (by simpa using hj)]
      rfl
    rw [← e]
    simpa using h

set_option maxHeartbeats 1000000 in
set_option maxRecDepth 100000 in
theorem call_upper.calls (a0 : ByteArray) (r : ByteArray) (w : World) (h : call_upper.f a0 = some r) :
    Calls Tryz.prog 91 #[.string a0] w fun e w' => e = .returned (.string r) ∧ Below w.heap.size w w' := by
  unfold call_upper.f at h
  split at h
  case isFalse => exact absurd h (by simp)
  rename_i hs
  have HR := Aside0.mk (Option.some.inj h)
  clear h
  have kb := fun W => print_bytes (P := Tryz.prog) 9 24 5 Tryz.underlying9 Tryz.underlying24 Tryz.underlying5 a0 W
  go_enter Tryz.func91, Tryz.ntmps91
  go_wp2
  go_loopw [10] (fun i wr => ∃ k : Nat, k ≤ a0.size ∧ i = .int .i64 k ∧ Aside0 (UpAt a0 w.heap.size k wr) ∧ Aside0 (Below w.heap.size w wr)) (fun i _ => a0.size - (intOf i).toNat)
  case atStart => exact ⟨0, Nat.zero_le _, rfl, ⟨UpAt.new a0 w⟩, ⟨bytes_below (Below.refl _ _) (Nat.le_refl _) _ _⟩⟩
  case round =>
    obtain ⟨k, hk, rfl, HU, HB⟩ := hrel
    by_cases hlt : k < a0.size
    · have hcell := HU.out.cell k hlt
      rw [if_neg (by omega)] at hcell
      have hfz := HU.out.frozen k hlt
      have hb := bt_range a0 k
      by_cases h1 : 97 ≤ bt a0 k
      · by_cases h2 : bt a0 k ≤ 122
        · have HX := Aside0.mk (show bt a0 k - 97 + 65 = upI (bt a0 k) by unfold upI; rw [if_pos ⟨h1, h2⟩])
          go_wp2
          go_roundw
          case rel => exact ⟨k + 1, by omega, by go_num, ⟨HU.out.store hlt _ HX.out⟩, ⟨HB.out.setCell (Nat.le_refl _) _⟩⟩
          case measure => simp [intOf]; omega
        · have HX := Aside0.mk (show upI (bt a0 k) = bt a0 k by unfold upI; rw [if_neg (by omega)])
          go_wp2
          go_roundw
          case rel => exact ⟨k + 1, by omega, by go_num, ⟨HU.out.keep HX.out⟩, ⟨HB.out⟩⟩
          case measure => simp [intOf]; omega
      · have HX := Aside0.mk (show upI (bt a0 k) = bt a0 k by unfold upI; rw [if_neg (by omega)])
        go_wp2
        go_roundw
        case rel => exact ⟨k + 1, by omega, by go_num, ⟨HU.out.keep HX.out⟩, ⟨HB.out⟩⟩
        case measure => simp [intOf]; omega
    · obtain rfl : k = a0.size := by omega
      have hcv := fun (c : Nat) => run_convert_bytes_arg (P := Tryz.prog) wr 24 5 Tryz.underlying24 Tryz.underlying5 w.heap.size 0 a0.size c (upL a0) (by simp [upL]; exact bytesOf_length a0) (fun j hj => by
        have z := HU.out.cell j hj
        rw [if_pos hj] at z
        rw [Nat.zero_add, z]
        unfold upL
        rw [List.getD_eq_getElem?_getD, List.getElem?_map, List.getElem?_eq_getElem (by rw [bytesOf_length]; exact hj)]
        have e : (bytesOf a0)[j]'(by rw [bytesOf_length]; exact hj) = bt a0 j := by
          unfold bt
          rw [dif_pos (by simpa using hj)]
          simp [bytesOf]
          rfl
        rw [e]
        rfl) 9 Tryz.underlying9
      go_wp2
      go_ret
      exact ⟨by rw [← HR.out]; rfl, HB.out⟩
end Go.Proofs.YtndgaeldndgioaaGreatDoor.QAll
end

section
/- call.Parse, walked by hand: the call of a word, or none and ErrCall, for every word. -/
set_option linter.unusedVariables false
set_option linter.unusedSimpArgs false
namespace Go.Proofs.YtndgaeldndgioaaGreatDoor.QAll
open Go.RowKit Go.Proofs.YtndgaeldndgioaaGreatDoorW.PrintWords Go.Proofs.YtndgaeldndgioaaGreatDoorW.PrintLast Go.Proofs.YtndgaeldndgioaaGreatDoorW.PrintMore

/-- The number behind the dash; none, if there is none so written. -/
def numOf (s : ByteArray) : Option Int := match Lib.atoiAll s.data.toList with
  | .ok v => if Lib.itoa v = s.data.toList then some v else none
  | _ => none
/-- What Parse tells. -/
def parseS (s : ByteArray) : ByteArray × Int × Int :=
  if cutHas (upperS s) 45 = true then
    match numOf (cutB (upperS s) 45) with
    | some v => if rightB (cutA (upperS s) 45) v = true then (cutA (upperS s) 45, v, 0) else (⟨#[]⟩, 0, 12)
    | none => (⟨#[]⟩, 0, 12)
  else if rightB (cutA (upperS s) 45) 0 = true then (cutA (upperS s) 45, 0, 0) else (⟨#[]⟩, 0, 12)
def call_Parse.f (a0 : ByteArray) : Option (ByteArray × Int × Int) := if a0.size ≤ 281474976710656 then some (parseS a0) else none

theorem upper_size (s : ByteArray) : (upperS s).size = s.size := by
  unfold upperS upL strOfNums
  show (List.toArray _).size = _
  simp [bytesOf]
theorem cutA_size (s : ByteArray) (c : UInt8) : (cutA s c).size ≤ s.size := by
  unfold cutA
  split
  · simp only [ByteArray.size_extract]; omega
  · exact Nat.le_refl _
theorem cutB_size (s : ByteArray) (c : UInt8) : (cutB s c).size ≤ s.size := by
  unfold cutB
  split
  · simp only [ByteArray.size_extract]; omega
  · exact Nat.zero_le _
theorem atoi_bounds {l : List UInt8} {v : Int} (h : Lib.atoiAll l = .ok v) : -9223372036854775808 ≤ v ∧ v ≤ 9223372036854775807 := by
  cases l with
  | nil => cases h
  | cons c r =>
    simp only [Lib.atoiAll] at h
    generalize hm : Lib.parseMag (if c.toNat = 43 ∨ c.toNat = 45 then r else c :: r) = m at h
    cases m with
    | range => cases h
    | ok u =>
      simp only at h
      by_cases e : c.toNat = 45
      · simp only [e, not_true_eq_false, false_and, if_false, true_and, if_true] at h
        split at h
        · cases h
        · injection h with h; omega
      · simp only [e, not_false_eq_true, true_and, false_and, if_false] at h
        split at h
        · cases h
        · injection h with h; omega
    | _ => cases h
theorem below_itoa (w : World) (k : Nat) (os : Array Obj) : Below w.heap.size w (Go.Sort.grow (w.drewN k) os) :=
  ⟨rfl, rfl, rfl, by show w.heap.size ≤ (w.heap ++ os).size; rw [Array.size_append]; omega, fun _ hj => Go.Sort.heap_grow_old (w.drewN k) os hj⟩
/-- A block of two cells, both written. -/
theorem two_set {w : World} {g : Nat} {a b x y : Value} {t : TypeId} (h : w.heap[g]? = some (.cells #[a, b] t (0, 0))) :
    ((w.setCell ⟨g, 0, none⟩ x).setCell ⟨g, 1, none⟩ y).heap[g]? = some (.cells #[x, y] t (0, 0)) := by
  simp [World.setCell, Array.getElem?_modify, h]
theorem one_set {w : World} {g : Nat} {a b y : Value} {t : TypeId} (h : w.heap[g]? = some (.cells #[a, b] t (0, 0))) :
    (w.setCell ⟨g, 1, none⟩ y).heap[g]? = some (.cells #[a, y] t (0, 0)) := by
  simp [World.setCell, Array.getElem?_modify, h]
/-- What is laid open of a block of two cells. -/
theorem two_cell {w : World} {g : Nat} {a b : Value} {t : TypeId} (h : w.heap[g]? = some (.cells #[a, b] t (0, 0))) :
    w.cell? ⟨g, 0, none⟩ = some a ∧ w.cell? ⟨g, 1, none⟩ = some b ∧ w.frozen? ⟨g, 0, none⟩ = false ∧ w.frozen? ⟨g, 1, none⟩ = false := by
  simp [World.cell?, World.frozen?, h]

set_option maxHeartbeats 1000000 in
set_option maxRecDepth 100000 in
theorem call_Parse.calls (a0 : ByteArray) (r1 : ByteArray) (r2 r3 : Int) (w : World) (hE_ : EnvW w) (h : call_Parse.f a0 = some (r1, r2, r3)) :
    Calls Tryz.prog 68 #[.string a0] w fun e w' => e = .returned (.tuple #[.agg #[.string r1, .int .i64 r2], .int .i64 r3]) ∧ Below w.heap.size w w' := by
  unfold call_Parse.f at h
  split at h
  case isFalse => exact absurd h (by simp)
  rename_i hs
  have HE := Aside0.mk hE_
  clear hE_
  have HR := Aside0.mk (Option.some.inj h)
  clear h
  have hu37 := Tryz.underlying37
  have hup : (upperS a0).size ≤ 281474976710656 := by rw [upper_size]; exact hs
  have hca : (cutA (upperS a0) 45).size ≤ 9223372036854775807 := by have := cutA_size (upperS a0) 45; omega
  have hcb : (cutB (upperS a0) 45).size ≤ 281474976710656 := by have := cutB_size (upperS a0) 45; omega
  go_enter Tryz.func68, Tryz.ntmps68
  go_wp2_with (fail)
  (with_reducible refine (call_upper.calls a0 (upperS a0) _ (by unfold call_upper.f; rw [if_pos (by omega)])).mono ?_)
  rintro e w1 ⟨rfl, hb1⟩
  cases hh : cutHas (upperS a0) 45 with
  | false =>
    have HH := Aside0.mk hh
    clear hh
    go_wp2_with (fail)
    (with_reducible refine (cut_one (upperS a0) 45 _ (by omega)).mono ?_)
    rw [HH.out]
    rintro e w2 ⟨rfl, hd2⟩
    have hz1 : w.heap.size < w2.heap.size := by have := hb1.size; have := hd2.below.size; simp only [World.size_alloc] at *; omega
    have HB2 := Aside0.mk (show Below w.heap.size w w2 from below_then (below_then ((Below.refl _ _).alloc (Nat.le_refl _) _) (by simp) hb1) (by have := hb1.size; simp only [World.size_alloc] at *; omega) hd2.below)
    have HR2 := Aside0.mk (show w2.heap[w.heap.size]? = some (.cells #[.string ⟨#[]⟩, .int .i64 0] 37 (0, 0)) by
      rw [hd2.below.block _ (by have := hb1.size; simp only [World.size_alloc] at this; omega), hb1.block _ (by simp)]
      exact heap_alloc_new w _)
    clear hb1 hd2
    cases hq : rightB (cutA (upperS a0) 45) 0 with
    | true =>
      have hpr := HR.out
      rw [show parseS a0 = (cutA (upperS a0) 45, 0, 0) by unfold parseS; rw [HH.out, if_neg (by decide), if_pos hq]] at hpr
      simp only [Prod.mk.injEq] at hpr
      obtain ⟨rfl, rfl, rfl⟩ := hpr
      have HQ := Aside0.mk hq
      clear hq HR
      go_wp2_with (fail)
      (with_reducible refine (call_Right.calls (cutA (upperS a0) 45) 0 true _ (by unfold call_Right.f; rw [if_pos hca, HQ.out])).mono ?_)
      rintro e w3 ⟨rfl, hb3⟩
      have HR3 := Aside0.mk ((hb3.block _ (by simp; omega)).trans ((Below.heap_alloc _ _ _ (by omega)).trans HR2.out))
      have HC3 := Aside0.mk ((hb3.block w2.heap.size (by simp)).trans (heap_alloc_new w2 _))
      obtain ⟨k0, k1, k2, k3⟩ := two_cell HR3.out
      obtain ⟨c0, c1, c2, c3⟩ := two_cell HC3.out
      have HB3 := Aside0.mk (below_then (HB2.out.alloc HB2.out.size _) (by simp; omega) hb3)
      clear hb3
      go_wp2_with (fail)
      refine bodyPost_ret (results_ct rfl _ _ w.heap.size 37 #[.string (cutA (upperS a0) 45), .int .i64 0] (0, 0) _ rfl (two_set HR3.out) Tryz.underlying37 rfl (by kernel_rfl)) rfl ?_
      exact ⟨rfl, (HB3.out.setCell (Nat.le_refl _) _).setCell (Nat.le_refl _) _⟩
    | false =>
      have hpr := HR.out
      rw [show parseS a0 = (⟨#[]⟩, 0, 12) by unfold parseS; rw [HH.out, if_neg (by decide), if_neg (by rw [hq]; decide)]] at hpr
      simp only [Prod.mk.injEq] at hpr
      obtain ⟨rfl, rfl, rfl⟩ := hpr
      have HQ := Aside0.mk hq
      clear hq HR
      go_wp2_with (fail)
      (with_reducible refine (call_Right.calls (cutA (upperS a0) 45) 0 false _ (by unfold call_Right.f; rw [if_pos hca, HQ.out])).mono ?_)
      rintro e w3 ⟨rfl, hb3⟩
      have HR3 := Aside0.mk ((hb3.block _ (by simp; omega)).trans ((Below.heap_alloc _ _ _ (by omega)).trans HR2.out))
      obtain ⟨k0, k1, k2, k3⟩ := two_cell HR3.out
      have HB3 := Aside0.mk (below_then (HB2.out.alloc HB2.out.size _) (by simp; omega) hb3)
      clear hb3
      go_wp2_with (fail)
      refine bodyPost_ret (results_ct rfl _ _ w.heap.size 37 #[.string ⟨#[]⟩, .int .i64 0] (0, 0) _ rfl (two_set HR3.out) Tryz.underlying37 rfl (by kernel_rfl)) rfl ?_
      exact ⟨rfl, (HB3.out.setCell (Nat.le_refl _) _).setCell (Nat.le_refl _) _⟩
  | true =>
    have HH := Aside0.mk hh
    clear hh
    go_wp2_with (fail)
    (with_reducible refine (cut_one (upperS a0) 45 _ (by omega)).mono ?_)
    rw [HH.out]
    rintro e w2 ⟨rfl, hd2⟩
    have hz1 : w.heap.size < w2.heap.size := by have := hb1.size; have := hd2.below.size; simp only [World.size_alloc] at *; omega
    have HB2 := Aside0.mk (show Below w.heap.size w w2 from below_then (below_then ((Below.refl _ _).alloc (Nat.le_refl _) _) (by simp) hb1) (by have := hb1.size; simp only [World.size_alloc] at *; omega) hd2.below)
    have HR2 := Aside0.mk (show w2.heap[w.heap.size]? = some (.cells #[.string ⟨#[]⟩, .int .i64 0] 37 (0, 0)) by
      rw [hd2.below.block _ (by have := hb1.size; simp only [World.size_alloc] at this; omega), hb1.block _ (by simp)]
      exact heap_alloc_new w _)
    clear hb1 hd2
    have HE2 := Aside0.mk (HE.out.below HB2.out)
    cases ha : Lib.atoiAll (cutB (upperS a0) 45).data.toList with
    | ok v =>
      have HA := Aside0.mk ha
      clear ha
      go_wp2_with (fail)
      (refine (Tryz.strconv_Atoi_ok (cutB (upperS a0) 45) (by omega) v HA.out _).mono ?_)
      rintro e w3 ⟨rfl, hw3⟩
      have hb3 : Below (w2.heap.size + 1) (w2.alloc (Obj.cells #[Value.string (cutA (upperS a0) 45), Value.int IntKind.i64 0] 37)) w3 := by
        rcases hw3 with rfl | ⟨t, rfl⟩
        · exact Below.refl _ _
        · exact bytes_below (Below.refl _ _) (by simp) _ _
      clear hw3
      obtain ⟨hv0, hv1⟩ := atoi_bounds HA.out
      have HE3 := Aside0.mk (HE2.out.below (below_then ((Below.refl _ _).alloc (Nat.le_refl _) _) (by simp) (by simpa using hb3)))
      have HR3 := Aside0.mk ((hb3.block _ (by omega)).trans ((Below.heap_alloc _ _ _ (by omega)).trans HR2.out))
      have HC3 := Aside0.mk ((hb3.block w2.heap.size (by omega)).trans (heap_alloc_new w2 _))
      have HB3 := Aside0.mk (below_then (HB2.out.alloc HB2.out.size _) (by simp; omega) (by simpa using hb3))
      have hz3 : w2.heap.size + 1 ≤ w3.heap.size := by have := hb3.size; simpa using this
      clear hb3
      have HV0 := Aside0.mk hv0
      have HV1 := Aside0.mk hv1
      clear hv0 hv1
      cases hi : decide (Lib.itoa v = (cutB (upperS a0) 45).data.toList) with
      | true =>
        have HI := Aside0.mk (of_decide_eq_true hi)
        clear hi
        go_wp2_with (fail)
        refine (Tryz.strconv_Itoa v HV0.out HV1.out _ HE3.out.tab).mono ?_
        rw [HI.out]
        rintro e w4 ⟨rfl, kk, os, hw4⟩
        have hb4 : Below w3.heap.size w3 w4 := by rw [hw4]; exact below_itoa w3 kk os
        clear hw4
        have HR4 := Aside0.mk ((hb4.block _ (by omega)).trans HR3.out)
        have HC4 := Aside0.mk ((hb4.block w2.heap.size (by omega)).trans HC3.out)
        have HB4 := Aside0.mk (below_then HB3.out (by omega) hb4)
        have hz4 := Nat.le_trans hz3 hb4.size
        clear hb4 HR3 HC3 HB3 hz3
        obtain ⟨c0, c1, c2, c3⟩ := two_cell HC4.out
        cases hq : rightB (cutA (upperS a0) 45) v with
        | true =>
          have hpr := HR.out
          rw [show parseS a0 = (cutA (upperS a0) 45, v, 0) by unfold parseS numOf; rw [HH.out, if_pos rfl, HA.out]; simp only [if_pos HI.out, if_pos hq]] at hpr
          simp only [Prod.mk.injEq] at hpr
          obtain ⟨rfl, rfl, rfl⟩ := hpr
          have HQ := Aside0.mk hq
          clear hq HR
          go_wp2_with (fail)
          (with_reducible refine (call_Right.calls (cutA (upperS a0) 45) v true _ (by unfold call_Right.f; rw [if_pos hca, HQ.out])).mono ?_)
          rintro e w5 ⟨rfl, hb5⟩
          have HR5 := Aside0.mk ((hb5.block w.heap.size (by simp [World.setCell]; omega)).trans ((Below.heap_setCell w4 ⟨w2.heap.size, 1, none⟩ (.int .i64 v) w.heap.size (by simp; omega)).trans HR4.out))
          have HC5 := Aside0.mk ((hb5.block w2.heap.size (by simp [World.setCell]; omega)).trans (one_set HC4.out))
          obtain ⟨k0, k1, k2, k3⟩ := two_cell HR5.out
          obtain ⟨d0, d1, d2, d3⟩ := two_cell HC5.out
          have HB5 := Aside0.mk (below_then (HB4.out.setCell (p := ⟨w2.heap.size, 1, none⟩) (show w.heap.size ≤ w2.heap.size by omega) (.int .i64 v)) (by simp [World.setCell]; omega) hb5)
          clear hb5 c0 c1 c2 c3
          go_wp2_with (fail)
          refine bodyPost_ret (results_ct rfl _ _ w.heap.size 37 #[.string (cutA (upperS a0) 45), .int .i64 v] (0, 0) _ rfl (two_set HR5.out) Tryz.underlying37 rfl (by kernel_rfl)) rfl ?_
          exact ⟨rfl, (HB5.out.setCell (Nat.le_refl _) _).setCell (Nat.le_refl _) _⟩
        | false =>
          have hpr := HR.out
          rw [show parseS a0 = (⟨#[]⟩, 0, 12) by unfold parseS numOf; rw [HH.out, if_pos rfl, HA.out]; simp only [if_pos HI.out, hq, Bool.false_eq_true, if_false]] at hpr
          simp only [Prod.mk.injEq] at hpr
          obtain ⟨rfl, rfl, rfl⟩ := hpr
          have HQ := Aside0.mk hq
          clear hq HR
          go_wp2_with (fail)
          (with_reducible refine (call_Right.calls (cutA (upperS a0) 45) v false _ (by unfold call_Right.f; rw [if_pos hca, HQ.out])).mono ?_)
          rintro e w5 ⟨rfl, hb5⟩
          have HR5 := Aside0.mk ((hb5.block w.heap.size (by simp [World.setCell]; omega)).trans ((Below.heap_setCell w4 ⟨w2.heap.size, 1, none⟩ (.int .i64 v) w.heap.size (by simp; omega)).trans HR4.out))
          have HC5 := Aside0.mk ((hb5.block w2.heap.size (by simp [World.setCell]; omega)).trans (one_set HC4.out))
          obtain ⟨k0, k1, k2, k3⟩ := two_cell HR5.out
          obtain ⟨d0, d1, d2, d3⟩ := two_cell HC5.out
          have HB5 := Aside0.mk (below_then (HB4.out.setCell (p := ⟨w2.heap.size, 1, none⟩) (show w.heap.size ≤ w2.heap.size by omega) (.int .i64 v)) (by simp [World.setCell]; omega) hb5)
          clear hb5 c0 c1 c2 c3
          go_wp2_with (fail)
          refine bodyPost_ret (results_ct rfl _ _ w.heap.size 37 #[.string ⟨#[]⟩, .int .i64 0] (0, 0) _ rfl (two_set HR5.out) Tryz.underlying37 rfl (by kernel_rfl)) rfl ?_
          exact ⟨rfl, (HB5.out.setCell (Nat.le_refl _) _).setCell (Nat.le_refl _) _⟩
      | false =>
        have hi' := of_decide_eq_false hi
        have HI := Aside0.mk hi'
        clear hi hi'
        have hpr := HR.out
        rw [show parseS a0 = (⟨#[]⟩, 0, 12) by unfold parseS numOf; rw [HH.out, if_pos rfl, HA.out]; simp only [if_neg HI.out]] at hpr
        simp only [Prod.mk.injEq] at hpr
        obtain ⟨rfl, rfl, rfl⟩ := hpr
        clear HR
        go_wp2_with (fail)
        refine (Tryz.strconv_Itoa v HV0.out HV1.out _ HE3.out.tab).mono ?_
        rintro e w4 ⟨rfl, kk, os, hw4⟩
        have hb4 : Below w3.heap.size w3 w4 := by rw [hw4]; exact below_itoa w3 kk os
        clear hw4
        have HR4 := Aside0.mk ((hb4.block _ (by omega)).trans HR3.out)
        have HB4 := Aside0.mk (below_then HB3.out (by omega) hb4)
        clear hb4 HR3 HC3 HB3
        obtain ⟨k0, k1, k2, k3⟩ := two_cell HR4.out
        have hne : (!Lib.itoa v == (cutB (upperS a0) 45).toList) = true := by rw [Go.ByteArray.toList_eq, beq_eq_false_iff_ne.mpr HI.out]; rfl
        go_wp2_with (fail)
        refine bodyPost_ret (results_ct rfl _ _ w.heap.size 37 #[.string ⟨#[]⟩, .int .i64 0] (0, 0) _ rfl (two_set HR4.out) Tryz.underlying37 rfl (by kernel_rfl)) rfl ?_
        exact ⟨rfl, (HB4.out.setCell (Nat.le_refl _) _).setCell (Nat.le_refl _) _⟩
    | range =>
      have HA := Aside0.mk ha
      clear ha
      have hpr := HR.out
      rw [show parseS a0 = (⟨#[]⟩, 0, 12) by unfold parseS numOf; rw [HH.out, if_pos rfl, HA.out]] at hpr
      simp only [Prod.mk.injEq] at hpr
      obtain ⟨rfl, rfl, rfl⟩ := hpr
      clear HR
      go_wp2_with (fail)
      obtain ⟨ev, he1, he2⟩ := HE2.out.rng
      (refine (Tryz.strconv_Atoi_range (cutB (upperS a0) 45) (by omega) HA.out ev _ (by rw [World.cell?_alloc_lt _ _ _ (World.block_lt_of_cell? _ _ he1)]; exact he1) he2).mono ?_)
      rintro e w3 ⟨N, rfl, hN, hc3, hb3⟩
      have HR3 := Aside0.mk ((hb3.block _ (by simp; omega)).trans ((Below.heap_alloc _ _ _ (by omega)).trans HR2.out))
      have HB3 := Aside0.mk (below_then (HB2.out.alloc HB2.out.size _) (by simp; omega) hb3)
      clear hb3 hc3 he1 he2
      obtain ⟨k0, k1, k2, k3⟩ := two_cell HR3.out
      go_wp2_with (fail)
      refine bodyPost_ret (results_ct rfl _ _ w.heap.size 37 #[.string ⟨#[]⟩, .int .i64 0] (0, 0) _ rfl (two_set HR3.out) Tryz.underlying37 rfl (by kernel_rfl)) rfl ?_
      exact ⟨rfl, (HB3.out.setCell (Nat.le_refl _) _).setCell (Nat.le_refl _) _⟩
    | _ =>
      have HA := Aside0.mk ha
      clear ha
      have hpr := HR.out
      rw [show parseS a0 = (⟨#[]⟩, 0, 12) by unfold parseS numOf; rw [HH.out, if_pos rfl, HA.out]] at hpr
      simp only [Prod.mk.injEq] at hpr
      obtain ⟨rfl, rfl, rfl⟩ := hpr
      clear HR
      go_wp2_with (fail)
      obtain ⟨ev, he1, he2⟩ := HE2.out.syn
      (refine (Tryz.strconv_Atoi_bad (cutB (upperS a0) 45) (by omega) (fun v e => by rw [HA.out] at e; cases e) (fun e => by rw [HA.out] at e; cases e) ev _ (by rw [World.cell?_alloc_lt _ _ _ (World.block_lt_of_cell? _ _ he1)]; exact he1) he2).mono ?_)
      rintro e w3 ⟨N, rfl, hN, hc3, hb3⟩
      have HR3 := Aside0.mk ((hb3.block _ (by simp; omega)).trans ((Below.heap_alloc _ _ _ (by omega)).trans HR2.out))
      have HB3 := Aside0.mk (below_then (HB2.out.alloc HB2.out.size _) (by simp; omega) hb3)
      clear hb3 hc3 he1 he2
      obtain ⟨k0, k1, k2, k3⟩ := two_cell HR3.out
      go_wp2_with (fail)
      refine bodyPost_ret (results_ct rfl _ _ w.heap.size 37 #[.string ⟨#[]⟩, .int .i64 0] (0, 0) _ rfl (two_set HR3.out) Tryz.underlying37 rfl (by kernel_rfl)) rfl ?_
      exact ⟨rfl, (HB3.out.setCell (Nat.le_refl _) _).setCell (Nat.le_refl _) _⟩
end Go.Proofs.YtndgaeldndgioaaGreatDoor.QAll
end

section
/- Walks, written by a program of this session (wip/pp): a Go function comes to what the Lean function beside it tells. -/
namespace Go.Proofs.YtndgaeldndgioaaGreatDoor.QAll
open Go.RowKit Go.Proofs.YtndgaeldndgioaaGreatDoorW.PrintWords Go.Proofs.YtndgaeldndgioaaGreatDoorW.PrintLast Go.Proofs.YtndgaeldndgioaaGreatDoorW.PrintMore
attribute [local go_sem] max2_int min2_int max_two min_two max_three min_three max_four min_four
set_option linter.unusedVariables false
set_option linter.unusedSimpArgs false

def xid_in.f (a0 : Int) (a1 : Int) (a2 : Int) : Option (Bool) := if a0 ≥ a1 then (some (decide (a0 ≤ a2))) else (some false)
set_option maxHeartbeats 8000000 in
set_option maxRecDepth 100000 in
theorem xid_in.calls (a0 : Int) (a1 : Int) (a2 : Int) (r : Bool) (w : World) (h : xid_in.f a0 a1 a2 = some r) :
  Calls Tryz.prog 86 #[.int .i64 a0, .int .i64 a1, .int .i64 a2] w fun e w' => e = .returned (.bool r) ∧ Drawn0 w w' := by
 have H : (if a0 ≥ a1 then (some (decide (a0 ≤ a2))) else (some false)) = some r := h
 clear h
 by_cases c4 : a0 ≥ a1
 ·rw [if_pos c4] at H
  have c4b0 : decide (a1 ≤ a0) = true := decide_eq_true c4
  clear c4
  obtain rfl := Option.some.inj H
  go_enter Tryz.func86, Tryz.ntmps86
  go_wp2
  go_ret
  exact ⟨by first | rfl | (simp; done) | (simp [*]; done) | (simp; exact (fun l : List UInt8 => (by cases l <;> rfl : l.isEmpty = !(l != []))) _), by repeat (first | exact Drawn0.refl _ | apply Drawn0.step)⟩
 ·rw [if_neg c4] at H
  have c4b0 : decide (a1 ≤ a0) = false := decide_eq_false c4
  clear c4
  obtain rfl := Option.some.inj H
  go_enter Tryz.func86, Tryz.ntmps86
  go_wp2
  go_ret
  exact ⟨by first | rfl | (simp; done) | (simp [*]; done) | (simp; exact (fun l : List UInt8 => (by cases l <;> rfl : l.isEmpty = !(l != []))) _), by repeat (first | exact Drawn0.refl _ | apply Drawn0.step)⟩

end Go.Proofs.YtndgaeldndgioaaGreatDoor.QAll
end

section
/- Walks, written by a program of this session (wip/pp): a Go function comes to what the Lean function beside it tells. -/
namespace Go.Proofs.YtndgaeldndgioaaGreatDoor.QAll
open Go.RowKit Go.Proofs.YtndgaeldndgioaaGreatDoorW.PrintWords Go.Proofs.YtndgaeldndgioaaGreatDoorW.PrintLast Go.Proofs.YtndgaeldndgioaaGreatDoorW.PrintMore
attribute [local go_sem] max2_int min2_int max_two min_two max_three min_three max_four min_four
set_option linter.unusedVariables false
set_option linter.unusedSimpArgs false

def xid_Most.f (a0 : Bool) (a1 : Bool) : Option (Int) := if a0 = true then (if a1 = true then (some ((63 + 1) / 2)) else (some 63)) else (if a1 = true then (some ((7 + 1) / 2)) else (some 7))
set_option maxHeartbeats 8000000 in
set_option maxRecDepth 100000 in
theorem xid_Most.calls (a0 : Bool) (a1 : Bool) (r : Int) (w : World) (h : xid_Most.f a0 a1 = some r) :
  Calls Tryz.prog 87 #[.bool a0, .bool a1] w fun e w' => e = .returned (.int .i64 r) ∧ Drawn0 w w' := by
 have H : (if a0 = true then (if a1 = true then (some ((63 + 1) / 2)) else (some 63)) else (if a1 = true then (some ((7 + 1) / 2)) else (some 7))) = some r := h
 clear h
 by_cases c3 : a0 = true
 ·subst c3
  have H1 : (if a1 = true then (some ((63 + 1) / 2)) else (some 63)) = some r := by rw [if_pos rfl] at H; exact H
  clear H
  have H := H1
  clear H1
  by_cases c4 : a1 = true
  ·subst c4
   have H1 : (some ((63 + 1) / 2)) = some r := by rw [if_pos rfl] at H; exact H
   clear H
   have H := H1
   clear H1
   obtain rfl := Option.some.inj H
   go_enter Tryz.func87, Tryz.ntmps87
   go_wp2
   go_ret
   exact ⟨by first | rfl | (simp; done) | (simp [*]; done) | (simp; exact (fun l : List UInt8 => (by cases l <;> rfl : l.isEmpty = !(l != []))) _), by repeat (first | exact Drawn0.refl _ | apply Drawn0.step)⟩
  ·replace c4 := Bool.eq_false_iff.mpr c4
   subst c4
   have H1 : (some 63) = some r := by rw [if_neg (show ¬ (false = true) by decide)] at H; exact H
   clear H
   have H := H1
   clear H1
   obtain rfl := Option.some.inj H
   go_enter Tryz.func87, Tryz.ntmps87
   go_wp2
   go_ret
   exact ⟨by first | rfl | (simp; done) | (simp [*]; done) | (simp; exact (fun l : List UInt8 => (by cases l <;> rfl : l.isEmpty = !(l != []))) _), by repeat (first | exact Drawn0.refl _ | apply Drawn0.step)⟩
 ·replace c3 := Bool.eq_false_iff.mpr c3
  subst c3
  have H1 : (if a1 = true then (some ((7 + 1) / 2)) else (some 7)) = some r := by rw [if_neg (show ¬ (false = true) by decide)] at H; exact H
  clear H
  have H := H1
  clear H1
  by_cases c5 : a1 = true
  ·subst c5
   have H1 : (some ((7 + 1) / 2)) = some r := by rw [if_pos rfl] at H; exact H
   clear H
   have H := H1
   clear H1
   obtain rfl := Option.some.inj H
   go_enter Tryz.func87, Tryz.ntmps87
   go_wp2
   go_ret
   exact ⟨by first | rfl | (simp; done) | (simp [*]; done) | (simp; exact (fun l : List UInt8 => (by cases l <;> rfl : l.isEmpty = !(l != []))) _), by repeat (first | exact Drawn0.refl _ | apply Drawn0.step)⟩
  ·replace c5 := Bool.eq_false_iff.mpr c5
   subst c5
   have H1 : (some 7) = some r := by rw [if_neg (show ¬ (false = true) by decide)] at H; exact H
   clear H
   have H := H1
   clear H1
   obtain rfl := Option.some.inj H
   go_enter Tryz.func87, Tryz.ntmps87
   go_wp2
   go_ret
   exact ⟨by first | rfl | (simp; done) | (simp [*]; done) | (simp; exact (fun l : List UInt8 => (by cases l <;> rfl : l.isEmpty = !(l != []))) _), by repeat (first | exact Drawn0.refl _ | apply Drawn0.step)⟩

end Go.Proofs.YtndgaeldndgioaaGreatDoor.QAll
end

section
/- Walks, written by a program of this session (wip/pp): a Go function comes to what the Lean function beside it tells. -/
namespace Go.Proofs.YtndgaeldndgioaaGreatDoor.QAll
open Go.RowKit Go.Proofs.YtndgaeldndgioaaGreatDoorW.PrintWords Go.Proofs.YtndgaeldndgioaaGreatDoorW.PrintLast Go.Proofs.YtndgaeldndgioaaGreatDoorW.PrintMore
attribute [local go_sem] max2_int min2_int max_two min_two max_three min_three max_four min_four
set_option linter.unusedVariables false
set_option linter.unusedSimpArgs false

def xid_Right.f (a0_0 : Bool) (a0_1 : Bool) (a0_2 : Int) (a0_3 : Int) (a0_4 : Int) (a0_5 : Int) : Option (Bool) := (xid_in.f a0_2 16 256).bind fun t242 => (if t242 = true then ((xid_Most.f a0_0 a0_1).bind fun t243 => ((xid_in.f a0_3 1 t243).bind fun t244 => (if t244 = true then ((xid_in.f a0_4 4 255).bind fun t245 => (if t245 = true then ((xid_in.f a0_5 1 15).bind fun t246 => (some t246)) else (some false))) else (some false)))) else (some false))
set_option maxHeartbeats 8000000 in
set_option maxRecDepth 100000 in
theorem xid_Right.calls (a0_0 : Bool) (a0_1 : Bool) (a0_2 : Int) (a0_3 : Int) (a0_4 : Int) (a0_5 : Int) (r : Bool) (w : World) (h : xid_Right.f a0_0 a0_1 a0_2 a0_3 a0_4 a0_5 = some r) :
  Calls Tryz.prog 63 #[.agg #[.bool a0_0, .bool a0_1, .int .i64 a0_2, .int .i64 a0_3, .int .i64 a0_4, .int .i64 a0_5]] w fun e w' => e = .returned (.bool r) ∧ Below w.heap.size w w' := by
 have hu40 := Tryz.underlying40
 have HB := Aside0.mk (Below.refl w.heap.size w)
 have H : ((xid_in.f a0_2 16 256).bind fun t242 => (if t242 = true then ((xid_Most.f a0_0 a0_1).bind fun t243 => ((xid_in.f a0_3 1 t243).bind fun t244 => (if t244 = true then ((xid_in.f a0_4 4 255).bind fun t245 => (if t245 = true then ((xid_in.f a0_5 1 15).bind fun t246 => (some t246)) else (some false))) else (some false)))) else (some false))) = some r := h
 clear h
 replace H := Option.bind_eq_some_iff.mp H
 obtain ⟨t242, A20, H⟩ := H
 replace H : (if t242 = true then ((xid_Most.f a0_0 a0_1).bind fun t243 => ((xid_in.f a0_3 1 t243).bind fun t244 => (if t244 = true then ((xid_in.f a0_4 4 255).bind fun t245 => (if t245 = true then ((xid_in.f a0_5 1 15).bind fun t246 => (some t246)) else (some false))) else (some false)))) else (some false)) = some r := H
 have A2 := Aside0.mk A20
 clear A20
 by_cases c3 : t242 = true
 ·subst c3
  have H1 : ((xid_Most.f a0_0 a0_1).bind fun t243 => ((xid_in.f a0_3 1 t243).bind fun t244 => (if t244 = true then ((xid_in.f a0_4 4 255).bind fun t245 => (if t245 = true then ((xid_in.f a0_5 1 15).bind fun t246 => (some t246)) else (some false))) else (some false)))) = some r := by rw [if_pos rfl] at H; exact H
  clear H
  have H := H1
  clear H1
  replace H := Option.bind_eq_some_iff.mp H
  obtain ⟨t243, A40, H⟩ := H
  replace H : ((xid_in.f a0_3 1 t243).bind fun t244 => (if t244 = true then ((xid_in.f a0_4 4 255).bind fun t245 => (if t245 = true then ((xid_in.f a0_5 1 15).bind fun t246 => (some t246)) else (some false))) else (some false))) = some r := H
  have A4 := Aside0.mk A40
  clear A40
  replace H := Option.bind_eq_some_iff.mp H
  obtain ⟨t244, A50, H⟩ := H
  replace H : (if t244 = true then ((xid_in.f a0_4 4 255).bind fun t245 => (if t245 = true then ((xid_in.f a0_5 1 15).bind fun t246 => (some t246)) else (some false))) else (some false)) = some r := H
  have A5 := Aside0.mk A50
  clear A50
  by_cases c6 : t244 = true
  ·subst c6
   have H1 : ((xid_in.f a0_4 4 255).bind fun t245 => (if t245 = true then ((xid_in.f a0_5 1 15).bind fun t246 => (some t246)) else (some false))) = some r := by rw [if_pos rfl] at H; exact H
   clear H
   have H := H1
   clear H1
   replace H := Option.bind_eq_some_iff.mp H
   obtain ⟨t245, A70, H⟩ := H
   replace H : (if t245 = true then ((xid_in.f a0_5 1 15).bind fun t246 => (some t246)) else (some false)) = some r := H
   have A7 := Aside0.mk A70
   clear A70
   by_cases c8 : t245 = true
   ·subst c8
    have H1 : ((xid_in.f a0_5 1 15).bind fun t246 => (some t246)) = some r := by rw [if_pos rfl] at H; exact H
    clear H
    have H := H1
    clear H1
    replace H := Option.bind_eq_some_iff.mp H
    obtain ⟨t246, A90, H⟩ := H
    replace H : (some t246) = some r := H
    have A9 := Aside0.mk A90
    clear A90
    obtain rfl := Option.some.inj H
    go_enter Tryz.func63, Tryz.ntmps63
    go_wp2_with (first | ((with_reducible refine gate_dst (N := 1) rfl ?_); refine box_event ?hg (N := 1) ?hd (cs := #[.bool a0_0, .bool a0_1, .int .i64 a0_2, .int .i64 a0_3, .int .i64 a0_4, .int .i64 a0_5]) (t := 40) ?hr ?_; (case hd => rfl); (case hg => rfl); (case hr => first | (go_simp; done) | (go_simp; rfl)); intro gb241 hg w10 hbox hb; have n0_ := Aside0.mk (below_step (by repeat (first | (with_reducible first | exact HB.out | apply below_alloc | apply pw_below_drewN | apply below_drew1) | exact HB.out)) hb); have n1_ := Aside0.mk (hbox); have n2_ := Aside0.mk ((by rw [hg]; exact (below_size (by repeat (first | (with_reducible first | exact HB.out | apply below_alloc | apply pw_below_drewN | apply below_drew1) | exact HB.out))) : w.heap.size ≤ gb241)); have n3_ := Aside0.mk ((by rw [hg]; exact (below_size (by repeat (first | (with_reducible first | exact HB.out | apply below_alloc | apply pw_below_drewN | apply below_drew1) | exact HB.out))) : w.heap.size ≤ gb241)); clear HB; have HB := n0_; have BK241 := n1_; have GW241 := n2_; have GE241 := n3_; clear n0_ n1_ n2_ n3_; clear hb hbox hg; have hcz11_0 : w10.cell? ⟨gb241, 0, none⟩ = some (.bool a0_0) := (blk_cell BK241.out 0).trans rfl; have hcz11_1 : w10.cell? ⟨gb241, 1, none⟩ = some (.bool a0_1) := (blk_cell BK241.out 1).trans rfl; have hcz11_2 : w10.cell? ⟨gb241, 2, none⟩ = some (.int .i64 a0_2) := (blk_cell BK241.out 2).trans rfl; have hcz11_3 : w10.cell? ⟨gb241, 3, none⟩ = some (.int .i64 a0_3) := (blk_cell BK241.out 3).trans rfl; have hcz11_4 : w10.cell? ⟨gb241, 4, none⟩ = some (.int .i64 a0_4) := (blk_cell BK241.out 4).trans rfl; have hcz11_5 : w10.cell? ⟨gb241, 5, none⟩ = some (.int .i64 a0_5) := (blk_cell BK241.out 5).trans rfl; have hfz11_0 := blk_frozen BK241.out 0; have hfz11_1 := blk_frozen BK241.out 1; have hfz11_2 := blk_frozen BK241.out 2; have hfz11_3 := blk_frozen BK241.out 3; have hfz11_4 := blk_frozen BK241.out 4; have hfz11_5 := blk_frozen BK241.out 5) | (go_at_call 86; (with_reducible refine (xid_in.calls a0_2 16 256 true _ A2.out).mono ?_); rintro e w' ⟨rfl, ⟨nd, rfl⟩⟩; (try first | exact ⟨rfl, _, World.drewN_drewN _ _ _⟩ | exact ⟨rfl, _, Eq.trans (World.drewN_drewN _ _ _) (congrArg (World.drewN _) (Nat.add_assoc _ _ _))⟩)) | (go_at_call 87; (with_reducible refine (xid_Most.calls a0_0 a0_1 t243 _ A4.out).mono ?_); rintro e w' ⟨rfl, ⟨nd, rfl⟩⟩; (try first | exact ⟨rfl, _, World.drewN_drewN _ _ _⟩ | exact ⟨rfl, _, Eq.trans (World.drewN_drewN _ _ _) (congrArg (World.drewN _) (Nat.add_assoc _ _ _))⟩)) | (go_at_call 86; (with_reducible refine (xid_in.calls a0_3 1 t243 true _ A5.out).mono ?_); rintro e w' ⟨rfl, ⟨nd, rfl⟩⟩; (try first | exact ⟨rfl, _, World.drewN_drewN _ _ _⟩ | exact ⟨rfl, _, Eq.trans (World.drewN_drewN _ _ _) (congrArg (World.drewN _) (Nat.add_assoc _ _ _))⟩)) | (go_at_call 86; (with_reducible refine (xid_in.calls a0_4 4 255 true _ A7.out).mono ?_); rintro e w' ⟨rfl, ⟨nd, rfl⟩⟩; (try first | exact ⟨rfl, _, World.drewN_drewN _ _ _⟩ | exact ⟨rfl, _, Eq.trans (World.drewN_drewN _ _ _) (congrArg (World.drewN _) (Nat.add_assoc _ _ _))⟩)) | (go_at_call 86; (with_reducible refine (xid_in.calls a0_5 1 15 t246 _ A9.out).mono ?_); rintro e w' ⟨rfl, ⟨nd, rfl⟩⟩; (try first | exact ⟨rfl, _, World.drewN_drewN _ _ _⟩ | exact ⟨rfl, _, Eq.trans (World.drewN_drewN _ _ _) (congrArg (World.drewN _) (Nat.add_assoc _ _ _))⟩)))
    repeat (go_quiet (first | ((with_reducible refine gate_dst (N := 1) rfl ?_); refine box_event ?hg (N := 1) ?hd (cs := #[.bool a0_0, .bool a0_1, .int .i64 a0_2, .int .i64 a0_3, .int .i64 a0_4, .int .i64 a0_5]) (t := 40) ?hr ?_; (case hd => rfl); (case hg => rfl); (case hr => first | (go_simp; done) | (go_simp; rfl)); intro gb241 hg w10 hbox hb; have n0_ := Aside0.mk (below_step (by repeat (first | (with_reducible first | exact HB.out | apply below_alloc | apply pw_below_drewN | apply below_drew1) | exact HB.out)) hb); have n1_ := Aside0.mk (hbox); have n2_ := Aside0.mk ((by rw [hg]; exact (below_size (by repeat (first | (with_reducible first | exact HB.out | apply below_alloc | apply pw_below_drewN | apply below_drew1) | exact HB.out))) : w.heap.size ≤ gb241)); have n3_ := Aside0.mk ((by rw [hg]; exact (below_size (by repeat (first | (with_reducible first | exact HB.out | apply below_alloc | apply pw_below_drewN | apply below_drew1) | exact HB.out))) : w.heap.size ≤ gb241)); clear HB; have HB := n0_; have BK241 := n1_; have GW241 := n2_; have GE241 := n3_; clear n0_ n1_ n2_ n3_; clear hb hbox hg; have hcz11_0 : w10.cell? ⟨gb241, 0, none⟩ = some (.bool a0_0) := (blk_cell BK241.out 0).trans rfl; have hcz11_1 : w10.cell? ⟨gb241, 1, none⟩ = some (.bool a0_1) := (blk_cell BK241.out 1).trans rfl; have hcz11_2 : w10.cell? ⟨gb241, 2, none⟩ = some (.int .i64 a0_2) := (blk_cell BK241.out 2).trans rfl; have hcz11_3 : w10.cell? ⟨gb241, 3, none⟩ = some (.int .i64 a0_3) := (blk_cell BK241.out 3).trans rfl; have hcz11_4 : w10.cell? ⟨gb241, 4, none⟩ = some (.int .i64 a0_4) := (blk_cell BK241.out 4).trans rfl; have hcz11_5 : w10.cell? ⟨gb241, 5, none⟩ = some (.int .i64 a0_5) := (blk_cell BK241.out 5).trans rfl; have hfz11_0 := blk_frozen BK241.out 0; have hfz11_1 := blk_frozen BK241.out 1; have hfz11_2 := blk_frozen BK241.out 2; have hfz11_3 := blk_frozen BK241.out 3; have hfz11_4 := blk_frozen BK241.out 4; have hfz11_5 := blk_frozen BK241.out 5) | (go_at_call 86; (with_reducible refine (xid_in.calls a0_2 16 256 true _ A2.out).mono ?_); rintro e w' ⟨rfl, ⟨nd, rfl⟩⟩; (try first | exact ⟨rfl, _, World.drewN_drewN _ _ _⟩ | exact ⟨rfl, _, Eq.trans (World.drewN_drewN _ _ _) (congrArg (World.drewN _) (Nat.add_assoc _ _ _))⟩)) | (go_at_call 87; (with_reducible refine (xid_Most.calls a0_0 a0_1 t243 _ A4.out).mono ?_); rintro e w' ⟨rfl, ⟨nd, rfl⟩⟩; (try first | exact ⟨rfl, _, World.drewN_drewN _ _ _⟩ | exact ⟨rfl, _, Eq.trans (World.drewN_drewN _ _ _) (congrArg (World.drewN _) (Nat.add_assoc _ _ _))⟩)) | (go_at_call 86; (with_reducible refine (xid_in.calls a0_3 1 t243 true _ A5.out).mono ?_); rintro e w' ⟨rfl, ⟨nd, rfl⟩⟩; (try first | exact ⟨rfl, _, World.drewN_drewN _ _ _⟩ | exact ⟨rfl, _, Eq.trans (World.drewN_drewN _ _ _) (congrArg (World.drewN _) (Nat.add_assoc _ _ _))⟩)) | (go_at_call 86; (with_reducible refine (xid_in.calls a0_4 4 255 true _ A7.out).mono ?_); rintro e w' ⟨rfl, ⟨nd, rfl⟩⟩; (try first | exact ⟨rfl, _, World.drewN_drewN _ _ _⟩ | exact ⟨rfl, _, Eq.trans (World.drewN_drewN _ _ _) (congrArg (World.drewN _) (Nat.add_assoc _ _ _))⟩)) | (go_at_call 86; (with_reducible refine (xid_in.calls a0_5 1 15 t246 _ A9.out).mono ?_); rintro e w' ⟨rfl, ⟨nd, rfl⟩⟩; (try first | exact ⟨rfl, _, World.drewN_drewN _ _ _⟩ | exact ⟨rfl, _, Eq.trans (World.drewN_drewN _ _ _) (congrArg (World.drewN _) (Nat.add_assoc _ _ _))⟩))); try go_wp2_with (first | ((with_reducible refine gate_dst (N := 1) rfl ?_); refine box_event ?hg (N := 1) ?hd (cs := #[.bool a0_0, .bool a0_1, .int .i64 a0_2, .int .i64 a0_3, .int .i64 a0_4, .int .i64 a0_5]) (t := 40) ?hr ?_; (case hd => rfl); (case hg => rfl); (case hr => first | (go_simp; done) | (go_simp; rfl)); intro gb241 hg w10 hbox hb; have n0_ := Aside0.mk (below_step (by repeat (first | (with_reducible first | exact HB.out | apply below_alloc | apply pw_below_drewN | apply below_drew1) | exact HB.out)) hb); have n1_ := Aside0.mk (hbox); have n2_ := Aside0.mk ((by rw [hg]; exact (below_size (by repeat (first | (with_reducible first | exact HB.out | apply below_alloc | apply pw_below_drewN | apply below_drew1) | exact HB.out))) : w.heap.size ≤ gb241)); have n3_ := Aside0.mk ((by rw [hg]; exact (below_size (by repeat (first | (with_reducible first | exact HB.out | apply below_alloc | apply pw_below_drewN | apply below_drew1) | exact HB.out))) : w.heap.size ≤ gb241)); clear HB; have HB := n0_; have BK241 := n1_; have GW241 := n2_; have GE241 := n3_; clear n0_ n1_ n2_ n3_; clear hb hbox hg; have hcz11_0 : w10.cell? ⟨gb241, 0, none⟩ = some (.bool a0_0) := (blk_cell BK241.out 0).trans rfl; have hcz11_1 : w10.cell? ⟨gb241, 1, none⟩ = some (.bool a0_1) := (blk_cell BK241.out 1).trans rfl; have hcz11_2 : w10.cell? ⟨gb241, 2, none⟩ = some (.int .i64 a0_2) := (blk_cell BK241.out 2).trans rfl; have hcz11_3 : w10.cell? ⟨gb241, 3, none⟩ = some (.int .i64 a0_3) := (blk_cell BK241.out 3).trans rfl; have hcz11_4 : w10.cell? ⟨gb241, 4, none⟩ = some (.int .i64 a0_4) := (blk_cell BK241.out 4).trans rfl; have hcz11_5 : w10.cell? ⟨gb241, 5, none⟩ = some (.int .i64 a0_5) := (blk_cell BK241.out 5).trans rfl; have hfz11_0 := blk_frozen BK241.out 0; have hfz11_1 := blk_frozen BK241.out 1; have hfz11_2 := blk_frozen BK241.out 2; have hfz11_3 := blk_frozen BK241.out 3; have hfz11_4 := blk_frozen BK241.out 4; have hfz11_5 := blk_frozen BK241.out 5) | (go_at_call 86; (with_reducible refine (xid_in.calls a0_2 16 256 true _ A2.out).mono ?_); rintro e w' ⟨rfl, ⟨nd, rfl⟩⟩; (try first | exact ⟨rfl, _, World.drewN_drewN _ _ _⟩ | exact ⟨rfl, _, Eq.trans (World.drewN_drewN _ _ _) (congrArg (World.drewN _) (Nat.add_assoc _ _ _))⟩)) | (go_at_call 87; (with_reducible refine (xid_Most.calls a0_0 a0_1 t243 _ A4.out).mono ?_); rintro e w' ⟨rfl, ⟨nd, rfl⟩⟩; (try first | exact ⟨rfl, _, World.drewN_drewN _ _ _⟩ | exact ⟨rfl, _, Eq.trans (World.drewN_drewN _ _ _) (congrArg (World.drewN _) (Nat.add_assoc _ _ _))⟩)) | (go_at_call 86; (with_reducible refine (xid_in.calls a0_3 1 t243 true _ A5.out).mono ?_); rintro e w' ⟨rfl, ⟨nd, rfl⟩⟩; (try first | exact ⟨rfl, _, World.drewN_drewN _ _ _⟩ | exact ⟨rfl, _, Eq.trans (World.drewN_drewN _ _ _) (congrArg (World.drewN _) (Nat.add_assoc _ _ _))⟩)) | (go_at_call 86; (with_reducible refine (xid_in.calls a0_4 4 255 true _ A7.out).mono ?_); rintro e w' ⟨rfl, ⟨nd, rfl⟩⟩; (try first | exact ⟨rfl, _, World.drewN_drewN _ _ _⟩ | exact ⟨rfl, _, Eq.trans (World.drewN_drewN _ _ _) (congrArg (World.drewN _) (Nat.add_assoc _ _ _))⟩)) | (go_at_call 86; (with_reducible refine (xid_in.calls a0_5 1 15 t246 _ A9.out).mono ?_); rintro e w' ⟨rfl, ⟨nd, rfl⟩⟩; (try first | exact ⟨rfl, _, World.drewN_drewN _ _ _⟩ | exact ⟨rfl, _, Eq.trans (World.drewN_drewN _ _ _) (congrArg (World.drewN _) (Nat.add_assoc _ _ _))⟩))))
    go_ret
    exact ⟨by first | rfl | (simp [errW_none, errW_some] <;> rfl) | (simp [*, errW_none, errW_some] <;> rfl), by repeat (first | (with_reducible first | exact HB.out | apply below_alloc | apply pw_below_drewN | apply below_drew1 | refine below_set ?_ GE241.out) | exact HB.out)⟩
   ·replace c8 := Bool.eq_false_iff.mpr c8
    subst c8
    have H1 : (some false) = some r := by rw [if_neg (show ¬ (false = true) by decide)] at H; exact H
    clear H
    have H := H1
    clear H1
    obtain rfl := Option.some.inj H
    go_enter Tryz.func63, Tryz.ntmps63
    go_wp2_with (first | ((with_reducible refine gate_dst (N := 1) rfl ?_); refine box_event ?hg (N := 1) ?hd (cs := #[.bool a0_0, .bool a0_1, .int .i64 a0_2, .int .i64 a0_3, .int .i64 a0_4, .int .i64 a0_5]) (t := 40) ?hr ?_; (case hd => rfl); (case hg => rfl); (case hr => first | (go_simp; done) | (go_simp; rfl)); intro gb241 hg w12 hbox hb; have n0_ := Aside0.mk (below_step (by repeat (first | (with_reducible first | exact HB.out | apply below_alloc | apply pw_below_drewN | apply below_drew1) | exact HB.out)) hb); have n1_ := Aside0.mk (hbox); have n2_ := Aside0.mk ((by rw [hg]; exact (below_size (by repeat (first | (with_reducible first | exact HB.out | apply below_alloc | apply pw_below_drewN | apply below_drew1) | exact HB.out))) : w.heap.size ≤ gb241)); have n3_ := Aside0.mk ((by rw [hg]; exact (below_size (by repeat (first | (with_reducible first | exact HB.out | apply below_alloc | apply pw_below_drewN | apply below_drew1) | exact HB.out))) : w.heap.size ≤ gb241)); clear HB; have HB := n0_; have BK241 := n1_; have GW241 := n2_; have GE241 := n3_; clear n0_ n1_ n2_ n3_; clear hb hbox hg; have hcz13_0 : w12.cell? ⟨gb241, 0, none⟩ = some (.bool a0_0) := (blk_cell BK241.out 0).trans rfl; have hcz13_1 : w12.cell? ⟨gb241, 1, none⟩ = some (.bool a0_1) := (blk_cell BK241.out 1).trans rfl; have hcz13_2 : w12.cell? ⟨gb241, 2, none⟩ = some (.int .i64 a0_2) := (blk_cell BK241.out 2).trans rfl; have hcz13_3 : w12.cell? ⟨gb241, 3, none⟩ = some (.int .i64 a0_3) := (blk_cell BK241.out 3).trans rfl; have hcz13_4 : w12.cell? ⟨gb241, 4, none⟩ = some (.int .i64 a0_4) := (blk_cell BK241.out 4).trans rfl; have hcz13_5 : w12.cell? ⟨gb241, 5, none⟩ = some (.int .i64 a0_5) := (blk_cell BK241.out 5).trans rfl; have hfz13_0 := blk_frozen BK241.out 0; have hfz13_1 := blk_frozen BK241.out 1; have hfz13_2 := blk_frozen BK241.out 2; have hfz13_3 := blk_frozen BK241.out 3; have hfz13_4 := blk_frozen BK241.out 4; have hfz13_5 := blk_frozen BK241.out 5) | (go_at_call 86; (with_reducible refine (xid_in.calls a0_2 16 256 true _ A2.out).mono ?_); rintro e w' ⟨rfl, ⟨nd, rfl⟩⟩; (try first | exact ⟨rfl, _, World.drewN_drewN _ _ _⟩ | exact ⟨rfl, _, Eq.trans (World.drewN_drewN _ _ _) (congrArg (World.drewN _) (Nat.add_assoc _ _ _))⟩)) | (go_at_call 87; (with_reducible refine (xid_Most.calls a0_0 a0_1 t243 _ A4.out).mono ?_); rintro e w' ⟨rfl, ⟨nd, rfl⟩⟩; (try first | exact ⟨rfl, _, World.drewN_drewN _ _ _⟩ | exact ⟨rfl, _, Eq.trans (World.drewN_drewN _ _ _) (congrArg (World.drewN _) (Nat.add_assoc _ _ _))⟩)) | (go_at_call 86; (with_reducible refine (xid_in.calls a0_3 1 t243 true _ A5.out).mono ?_); rintro e w' ⟨rfl, ⟨nd, rfl⟩⟩; (try first | exact ⟨rfl, _, World.drewN_drewN _ _ _⟩ | exact ⟨rfl, _, Eq.trans (World.drewN_drewN _ _ _) (congrArg (World.drewN _) (Nat.add_assoc _ _ _))⟩)) | (go_at_call 86; (with_reducible refine (xid_in.calls a0_4 4 255 false _ A7.out).mono ?_); rintro e w' ⟨rfl, ⟨nd, rfl⟩⟩; (try first | exact ⟨rfl, _, World.drewN_drewN _ _ _⟩ | exact ⟨rfl, _, Eq.trans (World.drewN_drewN _ _ _) (congrArg (World.drewN _) (Nat.add_assoc _ _ _))⟩)))
    repeat (go_quiet (first | ((with_reducible refine gate_dst (N := 1) rfl ?_); refine box_event ?hg (N := 1) ?hd (cs := #[.bool a0_0, .bool a0_1, .int .i64 a0_2, .int .i64 a0_3, .int .i64 a0_4, .int .i64 a0_5]) (t := 40) ?hr ?_; (case hd => rfl); (case hg => rfl); (case hr => first | (go_simp; done) | (go_simp; rfl)); intro gb241 hg w12 hbox hb; have n0_ := Aside0.mk (below_step (by repeat (first | (with_reducible first | exact HB.out | apply below_alloc | apply pw_below_drewN | apply below_drew1) | exact HB.out)) hb); have n1_ := Aside0.mk (hbox); have n2_ := Aside0.mk ((by rw [hg]; exact (below_size (by repeat (first | (with_reducible first | exact HB.out | apply below_alloc | apply pw_below_drewN | apply below_drew1) | exact HB.out))) : w.heap.size ≤ gb241)); have n3_ := Aside0.mk ((by rw [hg]; exact (below_size (by repeat (first | (with_reducible first | exact HB.out | apply below_alloc | apply pw_below_drewN | apply below_drew1) | exact HB.out))) : w.heap.size ≤ gb241)); clear HB; have HB := n0_; have BK241 := n1_; have GW241 := n2_; have GE241 := n3_; clear n0_ n1_ n2_ n3_; clear hb hbox hg; have hcz13_0 : w12.cell? ⟨gb241, 0, none⟩ = some (.bool a0_0) := (blk_cell BK241.out 0).trans rfl; have hcz13_1 : w12.cell? ⟨gb241, 1, none⟩ = some (.bool a0_1) := (blk_cell BK241.out 1).trans rfl; have hcz13_2 : w12.cell? ⟨gb241, 2, none⟩ = some (.int .i64 a0_2) := (blk_cell BK241.out 2).trans rfl; have hcz13_3 : w12.cell? ⟨gb241, 3, none⟩ = some (.int .i64 a0_3) := (blk_cell BK241.out 3).trans rfl; have hcz13_4 : w12.cell? ⟨gb241, 4, none⟩ = some (.int .i64 a0_4) := (blk_cell BK241.out 4).trans rfl; have hcz13_5 : w12.cell? ⟨gb241, 5, none⟩ = some (.int .i64 a0_5) := (blk_cell BK241.out 5).trans rfl; have hfz13_0 := blk_frozen BK241.out 0; have hfz13_1 := blk_frozen BK241.out 1; have hfz13_2 := blk_frozen BK241.out 2; have hfz13_3 := blk_frozen BK241.out 3; have hfz13_4 := blk_frozen BK241.out 4; have hfz13_5 := blk_frozen BK241.out 5) | (go_at_call 86; (with_reducible refine (xid_in.calls a0_2 16 256 true _ A2.out).mono ?_); rintro e w' ⟨rfl, ⟨nd, rfl⟩⟩; (try first | exact ⟨rfl, _, World.drewN_drewN _ _ _⟩ | exact ⟨rfl, _, Eq.trans (World.drewN_drewN _ _ _) (congrArg (World.drewN _) (Nat.add_assoc _ _ _))⟩)) | (go_at_call 87; (with_reducible refine (xid_Most.calls a0_0 a0_1 t243 _ A4.out).mono ?_); rintro e w' ⟨rfl, ⟨nd, rfl⟩⟩; (try first | exact ⟨rfl, _, World.drewN_drewN _ _ _⟩ | exact ⟨rfl, _, Eq.trans (World.drewN_drewN _ _ _) (congrArg (World.drewN _) (Nat.add_assoc _ _ _))⟩)) | (go_at_call 86; (with_reducible refine (xid_in.calls a0_3 1 t243 true _ A5.out).mono ?_); rintro e w' ⟨rfl, ⟨nd, rfl⟩⟩; (try first | exact ⟨rfl, _, World.drewN_drewN _ _ _⟩ | exact ⟨rfl, _, Eq.trans (World.drewN_drewN _ _ _) (congrArg (World.drewN _) (Nat.add_assoc _ _ _))⟩)) | (go_at_call 86; (with_reducible refine (xid_in.calls a0_4 4 255 false _ A7.out).mono ?_); rintro e w' ⟨rfl, ⟨nd, rfl⟩⟩; (try first | exact ⟨rfl, _, World.drewN_drewN _ _ _⟩ | exact ⟨rfl, _, Eq.trans (World.drewN_drewN _ _ _) (congrArg (World.drewN _) (Nat.add_assoc _ _ _))⟩))); try go_wp2_with (first | ((with_reducible refine gate_dst (N := 1) rfl ?_); refine box_event ?hg (N := 1) ?hd (cs := #[.bool a0_0, .bool a0_1, .int .i64 a0_2, .int .i64 a0_3, .int .i64 a0_4, .int .i64 a0_5]) (t := 40) ?hr ?_; (case hd => rfl); (case hg => rfl); (case hr => first | (go_simp; done) | (go_simp; rfl)); intro gb241 hg w12 hbox hb; have n0_ := Aside0.mk (below_step (by repeat (first | (with_reducible first | exact HB.out | apply below_alloc | apply pw_below_drewN | apply below_drew1) | exact HB.out)) hb); have n1_ := Aside0.mk (hbox); have n2_ := Aside0.mk ((by rw [hg]; exact (below_size (by repeat (first | (with_reducible first | exact HB.out | apply below_alloc | apply pw_below_drewN | apply below_drew1) | exact HB.out))) : w.heap.size ≤ gb241)); have n3_ := Aside0.mk ((by rw [hg]; exact (below_size (by repeat (first | (with_reducible first | exact HB.out | apply below_alloc | apply pw_below_drewN | apply below_drew1) | exact HB.out))) : w.heap.size ≤ gb241)); clear HB; have HB := n0_; have BK241 := n1_; have GW241 := n2_; have GE241 := n3_; clear n0_ n1_ n2_ n3_; clear hb hbox hg; have hcz13_0 : w12.cell? ⟨gb241, 0, none⟩ = some (.bool a0_0) := (blk_cell BK241.out 0).trans rfl; have hcz13_1 : w12.cell? ⟨gb241, 1, none⟩ = some (.bool a0_1) := (blk_cell BK241.out 1).trans rfl; have hcz13_2 : w12.cell? ⟨gb241, 2, none⟩ = some (.int .i64 a0_2) := (blk_cell BK241.out 2).trans rfl; have hcz13_3 : w12.cell? ⟨gb241, 3, none⟩ = some (.int .i64 a0_3) := (blk_cell BK241.out 3).trans rfl; have hcz13_4 : w12.cell? ⟨gb241, 4, none⟩ = some (.int .i64 a0_4) := (blk_cell BK241.out 4).trans rfl; have hcz13_5 : w12.cell? ⟨gb241, 5, none⟩ = some (.int .i64 a0_5) := (blk_cell BK241.out 5).trans rfl; have hfz13_0 := blk_frozen BK241.out 0; have hfz13_1 := blk_frozen BK241.out 1; have hfz13_2 := blk_frozen BK241.out 2; have hfz13_3 := blk_frozen BK241.out 3; have hfz13_4 := blk_frozen BK241.out 4; have hfz13_5 := blk_frozen BK241.out 5) | (go_at_call 86; (with_reducible refine (xid_in.calls a0_2 16 256 true _ A2.out).mono ?_); rintro e w' ⟨rfl, ⟨nd, rfl⟩⟩; (try first | exact ⟨rfl, _, World.drewN_drewN _ _ _⟩ | exact ⟨rfl, _, Eq.trans (World.drewN_drewN _ _ _) (congrArg (World.drewN _) (Nat.add_assoc _ _ _))⟩)) | (go_at_call 87; (with_reducible refine (xid_Most.calls a0_0 a0_1 t243 _ A4.out).mono ?_); rintro e w' ⟨rfl, ⟨nd, rfl⟩⟩; (try first | exact ⟨rfl, _, World.drewN_drewN _ _ _⟩ | exact ⟨rfl, _, Eq.trans (World.drewN_drewN _ _ _) (congrArg (World.drewN _) (Nat.add_assoc _ _ _))⟩)) | (go_at_call 86; (with_reducible refine (xid_in.calls a0_3 1 t243 true _ A5.out).mono ?_); rintro e w' ⟨rfl, ⟨nd, rfl⟩⟩; (try first | exact ⟨rfl, _, World.drewN_drewN _ _ _⟩ | exact ⟨rfl, _, Eq.trans (World.drewN_drewN _ _ _) (congrArg (World.drewN _) (Nat.add_assoc _ _ _))⟩)) | (go_at_call 86; (with_reducible refine (xid_in.calls a0_4 4 255 false _ A7.out).mono ?_); rintro e w' ⟨rfl, ⟨nd, rfl⟩⟩; (try first | exact ⟨rfl, _, World.drewN_drewN _ _ _⟩ | exact ⟨rfl, _, Eq.trans (World.drewN_drewN _ _ _) (congrArg (World.drewN _) (Nat.add_assoc _ _ _))⟩))))
    go_ret
    exact ⟨by first | rfl | (simp [errW_none, errW_some] <;> rfl) | (simp [*, errW_none, errW_some] <;> rfl), by repeat (first | (with_reducible first | exact HB.out | apply below_alloc | apply pw_below_drewN | apply below_drew1 | refine below_set ?_ GE241.out) | exact HB.out)⟩
  ·replace c6 := Bool.eq_false_iff.mpr c6
   subst c6
   have H1 : (some false) = some r := by rw [if_neg (show ¬ (false = true) by decide)] at H; exact H
   clear H
   have H := H1
   clear H1
   obtain rfl := Option.some.inj H
   go_enter Tryz.func63, Tryz.ntmps63
   go_wp2_with (first | ((with_reducible refine gate_dst (N := 1) rfl ?_); refine box_event ?hg (N := 1) ?hd (cs := #[.bool a0_0, .bool a0_1, .int .i64 a0_2, .int .i64 a0_3, .int .i64 a0_4, .int .i64 a0_5]) (t := 40) ?hr ?_; (case hd => rfl); (case hg => rfl); (case hr => first | (go_simp; done) | (go_simp; rfl)); intro gb241 hg w14 hbox hb; have n0_ := Aside0.mk (below_step (by repeat (first | (with_reducible first | exact HB.out | apply below_alloc | apply pw_below_drewN | apply below_drew1) | exact HB.out)) hb); have n1_ := Aside0.mk (hbox); have n2_ := Aside0.mk ((by rw [hg]; exact (below_size (by repeat (first | (with_reducible first | exact HB.out | apply below_alloc | apply pw_below_drewN | apply below_drew1) | exact HB.out))) : w.heap.size ≤ gb241)); have n3_ := Aside0.mk ((by rw [hg]; exact (below_size (by repeat (first | (with_reducible first | exact HB.out | apply below_alloc | apply pw_below_drewN | apply below_drew1) | exact HB.out))) : w.heap.size ≤ gb241)); clear HB; have HB := n0_; have BK241 := n1_; have GW241 := n2_; have GE241 := n3_; clear n0_ n1_ n2_ n3_; clear hb hbox hg; have hcz15_0 : w14.cell? ⟨gb241, 0, none⟩ = some (.bool a0_0) := (blk_cell BK241.out 0).trans rfl; have hcz15_1 : w14.cell? ⟨gb241, 1, none⟩ = some (.bool a0_1) := (blk_cell BK241.out 1).trans rfl; have hcz15_2 : w14.cell? ⟨gb241, 2, none⟩ = some (.int .i64 a0_2) := (blk_cell BK241.out 2).trans rfl; have hcz15_3 : w14.cell? ⟨gb241, 3, none⟩ = some (.int .i64 a0_3) := (blk_cell BK241.out 3).trans rfl; have hcz15_4 : w14.cell? ⟨gb241, 4, none⟩ = some (.int .i64 a0_4) := (blk_cell BK241.out 4).trans rfl; have hcz15_5 : w14.cell? ⟨gb241, 5, none⟩ = some (.int .i64 a0_5) := (blk_cell BK241.out 5).trans rfl; have hfz15_0 := blk_frozen BK241.out 0; have hfz15_1 := blk_frozen BK241.out 1; have hfz15_2 := blk_frozen BK241.out 2; have hfz15_3 := blk_frozen BK241.out 3; have hfz15_4 := blk_frozen BK241.out 4; have hfz15_5 := blk_frozen BK241.out 5) | (go_at_call 86; (with_reducible refine (xid_in.calls a0_2 16 256 true _ A2.out).mono ?_); rintro e w' ⟨rfl, ⟨nd, rfl⟩⟩; (try first | exact ⟨rfl, _, World.drewN_drewN _ _ _⟩ | exact ⟨rfl, _, Eq.trans (World.drewN_drewN _ _ _) (congrArg (World.drewN _) (Nat.add_assoc _ _ _))⟩)) | (go_at_call 87; (with_reducible refine (xid_Most.calls a0_0 a0_1 t243 _ A4.out).mono ?_); rintro e w' ⟨rfl, ⟨nd, rfl⟩⟩; (try first | exact ⟨rfl, _, World.drewN_drewN _ _ _⟩ | exact ⟨rfl, _, Eq.trans (World.drewN_drewN _ _ _) (congrArg (World.drewN _) (Nat.add_assoc _ _ _))⟩)) | (go_at_call 86; (with_reducible refine (xid_in.calls a0_3 1 t243 false _ A5.out).mono ?_); rintro e w' ⟨rfl, ⟨nd, rfl⟩⟩; (try first | exact ⟨rfl, _, World.drewN_drewN _ _ _⟩ | exact ⟨rfl, _, Eq.trans (World.drewN_drewN _ _ _) (congrArg (World.drewN _) (Nat.add_assoc _ _ _))⟩)))
   repeat (go_quiet (first | ((with_reducible refine gate_dst (N := 1) rfl ?_); refine box_event ?hg (N := 1) ?hd (cs := #[.bool a0_0, .bool a0_1, .int .i64 a0_2, .int .i64 a0_3, .int .i64 a0_4, .int .i64 a0_5]) (t := 40) ?hr ?_; (case hd => rfl); (case hg => rfl); (case hr => first | (go_simp; done) | (go_simp; rfl)); intro gb241 hg w14 hbox hb; have n0_ := Aside0.mk (below_step (by repeat (first | (with_reducible first | exact HB.out | apply below_alloc | apply pw_below_drewN | apply below_drew1) | exact HB.out)) hb); have n1_ := Aside0.mk (hbox); have n2_ := Aside0.mk ((by rw [hg]; exact (below_size (by repeat (first | (with_reducible first | exact HB.out | apply below_alloc | apply pw_below_drewN | apply below_drew1) | exact HB.out))) : w.heap.size ≤ gb241)); have n3_ := Aside0.mk ((by rw [hg]; exact (below_size (by repeat (first | (with_reducible first | exact HB.out | apply below_alloc | apply pw_below_drewN | apply below_drew1) | exact HB.out))) : w.heap.size ≤ gb241)); clear HB; have HB := n0_; have BK241 := n1_; have GW241 := n2_; have GE241 := n3_; clear n0_ n1_ n2_ n3_; clear hb hbox hg; have hcz15_0 : w14.cell? ⟨gb241, 0, none⟩ = some (.bool a0_0) := (blk_cell BK241.out 0).trans rfl; have hcz15_1 : w14.cell? ⟨gb241, 1, none⟩ = some (.bool a0_1) := (blk_cell BK241.out 1).trans rfl; have hcz15_2 : w14.cell? ⟨gb241, 2, none⟩ = some (.int .i64 a0_2) := (blk_cell BK241.out 2).trans rfl; have hcz15_3 : w14.cell? ⟨gb241, 3, none⟩ = some (.int .i64 a0_3) := (blk_cell BK241.out 3).trans rfl; have hcz15_4 : w14.cell? ⟨gb241, 4, none⟩ = some (.int .i64 a0_4) := (blk_cell BK241.out 4).trans rfl; have hcz15_5 : w14.cell? ⟨gb241, 5, none⟩ = some (.int .i64 a0_5) := (blk_cell BK241.out 5).trans rfl; have hfz15_0 := blk_frozen BK241.out 0; have hfz15_1 := blk_frozen BK241.out 1; have hfz15_2 := blk_frozen BK241.out 2; have hfz15_3 := blk_frozen BK241.out 3; have hfz15_4 := blk_frozen BK241.out 4; have hfz15_5 := blk_frozen BK241.out 5) | (go_at_call 86; (with_reducible refine (xid_in.calls a0_2 16 256 true _ A2.out).mono ?_); rintro e w' ⟨rfl, ⟨nd, rfl⟩⟩; (try first | exact ⟨rfl, _, World.drewN_drewN _ _ _⟩ | exact ⟨rfl, _, Eq.trans (World.drewN_drewN _ _ _) (congrArg (World.drewN _) (Nat.add_assoc _ _ _))⟩)) | (go_at_call 87; (with_reducible refine (xid_Most.calls a0_0 a0_1 t243 _ A4.out).mono ?_); rintro e w' ⟨rfl, ⟨nd, rfl⟩⟩; (try first | exact ⟨rfl, _, World.drewN_drewN _ _ _⟩ | exact ⟨rfl, _, Eq.trans (World.drewN_drewN _ _ _) (congrArg (World.drewN _) (Nat.add_assoc _ _ _))⟩)) | (go_at_call 86; (with_reducible refine (xid_in.calls a0_3 1 t243 false _ A5.out).mono ?_); rintro e w' ⟨rfl, ⟨nd, rfl⟩⟩; (try first | exact ⟨rfl, _, World.drewN_drewN _ _ _⟩ | exact ⟨rfl, _, Eq.trans (World.drewN_drewN _ _ _) (congrArg (World.drewN _) (Nat.add_assoc _ _ _))⟩))); try go_wp2_with (first | ((with_reducible refine gate_dst (N := 1) rfl ?_); refine box_event ?hg (N := 1) ?hd (cs := #[.bool a0_0, .bool a0_1, .int .i64 a0_2, .int .i64 a0_3, .int .i64 a0_4, .int .i64 a0_5]) (t := 40) ?hr ?_; (case hd => rfl); (case hg => rfl); (case hr => first | (go_simp; done) | (go_simp; rfl)); intro gb241 hg w14 hbox hb; have n0_ := Aside0.mk (below_step (by repeat (first | (with_reducible first | exact HB.out | apply below_alloc | apply pw_below_drewN | apply below_drew1) | exact HB.out)) hb); have n1_ := Aside0.mk (hbox); have n2_ := Aside0.mk ((by rw [hg]; exact (below_size (by repeat (first | (with_reducible first | exact HB.out | apply below_alloc | apply pw_below_drewN | apply below_drew1) | exact HB.out))) : w.heap.size ≤ gb241)); have n3_ := Aside0.mk ((by rw [hg]; exact (below_size (by repeat (first | (with_reducible first | exact HB.out | apply below_alloc | apply pw_below_drewN | apply below_drew1) | exact HB.out))) : w.heap.size ≤ gb241)); clear HB; have HB := n0_; have BK241 := n1_; have GW241 := n2_; have GE241 := n3_; clear n0_ n1_ n2_ n3_; clear hb hbox hg; have hcz15_0 : w14.cell? ⟨gb241, 0, none⟩ = some (.bool a0_0) := (blk_cell BK241.out 0).trans rfl; have hcz15_1 : w14.cell? ⟨gb241, 1, none⟩ = some (.bool a0_1) := (blk_cell BK241.out 1).trans rfl; have hcz15_2 : w14.cell? ⟨gb241, 2, none⟩ = some (.int .i64 a0_2) := (blk_cell BK241.out 2).trans rfl; have hcz15_3 : w14.cell? ⟨gb241, 3, none⟩ = some (.int .i64 a0_3) := (blk_cell BK241.out 3).trans rfl; have hcz15_4 : w14.cell? ⟨gb241, 4, none⟩ = some (.int .i64 a0_4) := (blk_cell BK241.out 4).trans rfl; have hcz15_5 : w14.cell? ⟨gb241, 5, none⟩ = some (.int .i64 a0_5) := (blk_cell BK241.out 5).trans rfl; have hfz15_0 := blk_frozen BK241.out 0; have hfz15_1 := blk_frozen BK241.out 1; have hfz15_2 := blk_frozen BK241.out 2; have hfz15_3 := blk_frozen BK241.out 3; have hfz15_4 := blk_frozen BK241.out 4; have hfz15_5 := blk_frozen BK241.out 5) | (go_at_call 86; (with_reducible refine (xid_in.calls a0_2 16 256 true _ A2.out).mono ?_); rintro e w' ⟨rfl, ⟨nd, rfl⟩⟩; (try first | exact ⟨rfl, _, World.drewN_drewN _ _ _⟩ | exact ⟨rfl, _, Eq.trans (World.drewN_drewN _ _ _) (congrArg (World.drewN _) (Nat.add_assoc _ _ _))⟩)) | (go_at_call 87; (with_reducible refine (xid_Most.calls a0_0 a0_1 t243 _ A4.out).mono ?_); rintro e w' ⟨rfl, ⟨nd, rfl⟩⟩; (try first | exact ⟨rfl, _, World.drewN_drewN _ _ _⟩ | exact ⟨rfl, _, Eq.trans (World.drewN_drewN _ _ _) (congrArg (World.drewN _) (Nat.add_assoc _ _ _))⟩)) | (go_at_call 86; (with_reducible refine (xid_in.calls a0_3 1 t243 false _ A5.out).mono ?_); rintro e w' ⟨rfl, ⟨nd, rfl⟩⟩; (try first | exact ⟨rfl, _, World.drewN_drewN _ _ _⟩ | exact ⟨rfl, _, Eq.trans (World.drewN_drewN _ _ _) (congrArg (World.drewN _) (Nat.add_assoc _ _ _))⟩))))
   go_ret
   exact ⟨by first | rfl | (simp [errW_none, errW_some] <;> rfl) | (simp [*, errW_none, errW_some] <;> rfl), by repeat (first | (with_reducible first | exact HB.out | apply below_alloc | apply pw_below_drewN | apply below_drew1 | refine below_set ?_ GE241.out) | exact HB.out)⟩
 ·replace c3 := Bool.eq_false_iff.mpr c3
  subst c3
  have H1 : (some false) = some r := by rw [if_neg (show ¬ (false = true) by decide)] at H; exact H
  clear H
  have H := H1
  clear H1
  obtain rfl := Option.some.inj H
  go_enter Tryz.func63, Tryz.ntmps63
  go_wp2_with (first | ((with_reducible refine gate_dst (N := 1) rfl ?_); refine box_event ?hg (N := 1) ?hd (cs := #[.bool a0_0, .bool a0_1, .int .i64 a0_2, .int .i64 a0_3, .int .i64 a0_4, .int .i64 a0_5]) (t := 40) ?hr ?_; (case hd => rfl); (case hg => rfl); (case hr => first | (go_simp; done) | (go_simp; rfl)); intro gb241 hg w16 hbox hb; have n0_ := Aside0.mk (below_step (by repeat (first | (with_reducible first | exact HB.out | apply below_alloc | apply pw_below_drewN | apply below_drew1) | exact HB.out)) hb); have n1_ := Aside0.mk (hbox); have n2_ := Aside0.mk ((by rw [hg]; exact (below_size (by repeat (first | (with_reducible first | exact HB.out | apply below_alloc | apply pw_below_drewN | apply below_drew1) | exact HB.out))) : w.heap.size ≤ gb241)); have n3_ := Aside0.mk ((by rw [hg]; exact (below_size (by repeat (first | (with_reducible first | exact HB.out | apply below_alloc | apply pw_below_drewN | apply below_drew1) | exact HB.out))) : w.heap.size ≤ gb241)); clear HB; have HB := n0_; have BK241 := n1_; have GW241 := n2_; have GE241 := n3_; clear n0_ n1_ n2_ n3_; clear hb hbox hg; have hcz17_0 : w16.cell? ⟨gb241, 0, none⟩ = some (.bool a0_0) := (blk_cell BK241.out 0).trans rfl; have hcz17_1 : w16.cell? ⟨gb241, 1, none⟩ = some (.bool a0_1) := (blk_cell BK241.out 1).trans rfl; have hcz17_2 : w16.cell? ⟨gb241, 2, none⟩ = some (.int .i64 a0_2) := (blk_cell BK241.out 2).trans rfl; have hcz17_3 : w16.cell? ⟨gb241, 3, none⟩ = some (.int .i64 a0_3) := (blk_cell BK241.out 3).trans rfl; have hcz17_4 : w16.cell? ⟨gb241, 4, none⟩ = some (.int .i64 a0_4) := (blk_cell BK241.out 4).trans rfl; have hcz17_5 : w16.cell? ⟨gb241, 5, none⟩ = some (.int .i64 a0_5) := (blk_cell BK241.out 5).trans rfl; have hfz17_0 := blk_frozen BK241.out 0; have hfz17_1 := blk_frozen BK241.out 1; have hfz17_2 := blk_frozen BK241.out 2; have hfz17_3 := blk_frozen BK241.out 3; have hfz17_4 := blk_frozen BK241.out 4; have hfz17_5 := blk_frozen BK241.out 5) | (go_at_call 86; (with_reducible refine (xid_in.calls a0_2 16 256 false _ A2.out).mono ?_); rintro e w' ⟨rfl, ⟨nd, rfl⟩⟩; (try first | exact ⟨rfl, _, World.drewN_drewN _ _ _⟩ | exact ⟨rfl, _, Eq.trans (World.drewN_drewN _ _ _) (congrArg (World.drewN _) (Nat.add_assoc _ _ _))⟩)))
  repeat (go_quiet (first | ((with_reducible refine gate_dst (N := 1) rfl ?_); refine box_event ?hg (N := 1) ?hd (cs := #[.bool a0_0, .bool a0_1, .int .i64 a0_2, .int .i64 a0_3, .int .i64 a0_4, .int .i64 a0_5]) (t := 40) ?hr ?_; (case hd => rfl); (case hg => rfl); (case hr => first | (go_simp; done) | (go_simp; rfl)); intro gb241 hg w16 hbox hb; have n0_ := Aside0.mk (below_step (by repeat (first | (with_reducible first | exact HB.out | apply below_alloc | apply pw_below_drewN | apply below_drew1) | exact HB.out)) hb); have n1_ := Aside0.mk (hbox); have n2_ := Aside0.mk ((by rw [hg]; exact (below_size (by repeat (first | (with_reducible first | exact HB.out | apply below_alloc | apply pw_below_drewN | apply below_drew1) | exact HB.out))) : w.heap.size ≤ gb241)); have n3_ := Aside0.mk ((by rw [hg]; exact (below_size (by repeat (first | (with_reducible first | exact HB.out | apply below_alloc | apply pw_below_drewN | apply below_drew1) | exact HB.out))) : w.heap.size ≤ gb241)); clear HB; have HB := n0_; have BK241 := n1_; have GW241 := n2_; have GE241 := n3_; clear n0_ n1_ n2_ n3_; clear hb hbox hg; have hcz17_0 : w16.cell? ⟨gb241, 0, none⟩ = some (.bool a0_0) := (blk_cell BK241.out 0).trans rfl; have hcz17_1 : w16.cell? ⟨gb241, 1, none⟩ = some (.bool a0_1) := (blk_cell BK241.out 1).trans rfl; have hcz17_2 : w16.cell? ⟨gb241, 2, none⟩ = some (.int .i64 a0_2) := (blk_cell BK241.out 2).trans rfl; have hcz17_3 : w16.cell? ⟨gb241, 3, none⟩ = some (.int .i64 a0_3) := (blk_cell BK241.out 3).trans rfl; have hcz17_4 : w16.cell? ⟨gb241, 4, none⟩ = some (.int .i64 a0_4) := (blk_cell BK241.out 4).trans rfl; have hcz17_5 : w16.cell? ⟨gb241, 5, none⟩ = some (.int .i64 a0_5) := (blk_cell BK241.out 5).trans rfl; have hfz17_0 := blk_frozen BK241.out 0; have hfz17_1 := blk_frozen BK241.out 1; have hfz17_2 := blk_frozen BK241.out 2; have hfz17_3 := blk_frozen BK241.out 3; have hfz17_4 := blk_frozen BK241.out 4; have hfz17_5 := blk_frozen BK241.out 5) | (go_at_call 86; (with_reducible refine (xid_in.calls a0_2 16 256 false _ A2.out).mono ?_); rintro e w' ⟨rfl, ⟨nd, rfl⟩⟩; (try first | exact ⟨rfl, _, World.drewN_drewN _ _ _⟩ | exact ⟨rfl, _, Eq.trans (World.drewN_drewN _ _ _) (congrArg (World.drewN _) (Nat.add_assoc _ _ _))⟩))); try go_wp2_with (first | ((with_reducible refine gate_dst (N := 1) rfl ?_); refine box_event ?hg (N := 1) ?hd (cs := #[.bool a0_0, .bool a0_1, .int .i64 a0_2, .int .i64 a0_3, .int .i64 a0_4, .int .i64 a0_5]) (t := 40) ?hr ?_; (case hd => rfl); (case hg => rfl); (case hr => first | (go_simp; done) | (go_simp; rfl)); intro gb241 hg w16 hbox hb; have n0_ := Aside0.mk (below_step (by repeat (first | (with_reducible first | exact HB.out | apply below_alloc | apply pw_below_drewN | apply below_drew1) | exact HB.out)) hb); have n1_ := Aside0.mk (hbox); have n2_ := Aside0.mk ((by rw [hg]; exact (below_size (by repeat (first | (with_reducible first | exact HB.out | apply below_alloc | apply pw_below_drewN | apply below_drew1) | exact HB.out))) : w.heap.size ≤ gb241)); have n3_ := Aside0.mk ((by rw [hg]; exact (below_size (by repeat (first | (with_reducible first | exact HB.out | apply below_alloc | apply pw_below_drewN | apply below_drew1) | exact HB.out))) : w.heap.size ≤ gb241)); clear HB; have HB := n0_; have BK241 := n1_; have GW241 := n2_; have GE241 := n3_; clear n0_ n1_ n2_ n3_; clear hb hbox hg; have hcz17_0 : w16.cell? ⟨gb241, 0, none⟩ = some (.bool a0_0) := (blk_cell BK241.out 0).trans rfl; have hcz17_1 : w16.cell? ⟨gb241, 1, none⟩ = some (.bool a0_1) := (blk_cell BK241.out 1).trans rfl; have hcz17_2 : w16.cell? ⟨gb241, 2, none⟩ = some (.int .i64 a0_2) := (blk_cell BK241.out 2).trans rfl; have hcz17_3 : w16.cell? ⟨gb241, 3, none⟩ = some (.int .i64 a0_3) := (blk_cell BK241.out 3).trans rfl; have hcz17_4 : w16.cell? ⟨gb241, 4, none⟩ = some (.int .i64 a0_4) := (blk_cell BK241.out 4).trans rfl; have hcz17_5 : w16.cell? ⟨gb241, 5, none⟩ = some (.int .i64 a0_5) := (blk_cell BK241.out 5).trans rfl; have hfz17_0 := blk_frozen BK241.out 0; have hfz17_1 := blk_frozen BK241.out 1; have hfz17_2 := blk_frozen BK241.out 2; have hfz17_3 := blk_frozen BK241.out 3; have hfz17_4 := blk_frozen BK241.out 4; have hfz17_5 := blk_frozen BK241.out 5) | (go_at_call 86; (with_reducible refine (xid_in.calls a0_2 16 256 false _ A2.out).mono ?_); rintro e w' ⟨rfl, ⟨nd, rfl⟩⟩; (try first | exact ⟨rfl, _, World.drewN_drewN _ _ _⟩ | exact ⟨rfl, _, Eq.trans (World.drewN_drewN _ _ _) (congrArg (World.drewN _) (Nat.add_assoc _ _ _))⟩))))
  go_ret
  exact ⟨by first | rfl | (simp [errW_none, errW_some] <;> rfl) | (simp [*, errW_none, errW_some] <;> rfl), by repeat (first | (with_reducible first | exact HB.out | apply below_alloc | apply pw_below_drewN | apply below_drew1 | refine below_set ?_ GE241.out) | exact HB.out)⟩

end Go.Proofs.YtndgaeldndgioaaGreatDoor.QAll
end

section
/- Walks, written by a program of this session (wip/pp): a Go function comes to what the Lean function beside it tells. -/
namespace Go.Proofs.YtndgaeldndgioaaGreatDoor.QAll
open Go.RowKit Go.Proofs.YtndgaeldndgioaaGreatDoorW.PrintWords Go.Proofs.YtndgaeldndgioaaGreatDoorW.PrintLast Go.Proofs.YtndgaeldndgioaaGreatDoorW.PrintMore
attribute [local go_sem] max2_int min2_int max_two min_two max_three min_three max_four min_four
set_option linter.unusedVariables false
set_option linter.unusedSimpArgs false

def tnc_in.f (a0 : Int) (a1 : Int) : Option (Bool) := if a0 ≥ 0 then (some (decide (a0 ≤ a1))) else (some false)
set_option maxHeartbeats 8000000 in
set_option maxRecDepth 100000 in
theorem tnc_in.calls (a0 : Int) (a1 : Int) (r : Bool) (w : World) (h : tnc_in.f a0 a1 = some r) :
  Calls Tryz.prog 65 #[.int .i64 a0, .int .i64 a1] w fun e w' => e = .returned (.bool r) ∧ Drawn0 w w' := by
 have H : (if a0 ≥ 0 then (some (decide (a0 ≤ a1))) else (some false)) = some r := h
 clear h
 by_cases c3 : a0 ≥ 0
 ·rw [if_pos c3] at H
  have c3b0 : decide (0 ≤ a0) = true := decide_eq_true c3
  clear c3
  obtain rfl := Option.some.inj H
  go_enter Tryz.func65, Tryz.ntmps65
  go_wp2
  go_ret
  exact ⟨by first | rfl | (simp; done) | (simp [*]; done) | (simp; exact (fun l : List UInt8 => (by cases l <;> rfl : l.isEmpty = !(l != []))) _), by repeat (first | exact Drawn0.refl _ | apply Drawn0.step)⟩
 ·rw [if_neg c3] at H
  have c3b0 : decide (0 ≤ a0) = false := decide_eq_false c3
  clear c3
  obtain rfl := Option.some.inj H
  go_enter Tryz.func65, Tryz.ntmps65
  go_wp2
  go_ret
  exact ⟨by first | rfl | (simp; done) | (simp [*]; done) | (simp; exact (fun l : List UInt8 => (by cases l <;> rfl : l.isEmpty = !(l != []))) _), by repeat (first | exact Drawn0.refl _ | apply Drawn0.step)⟩

end Go.Proofs.YtndgaeldndgioaaGreatDoor.QAll
end

section
/- The small makers, walked by hand: txq.New, ui.New, links.New, tnc.numbers, tnc.Right. -/
set_option linter.unusedVariables false
set_option linter.unusedSimpArgs false
namespace Go.Proofs.YtndgaeldndgioaaGreatDoor.QAll
open Go.RowKit Go.Proofs.YtndgaeldndgioaaGreatDoorW.PrintWords Go.Proofs.YtndgaeldndgioaaGreatDoorW.PrintLast Go.Proofs.YtndgaeldndgioaaGreatDoorW.PrintMore
set_option maxHeartbeats 4000000 in
set_option maxRecDepth 100000 in
theorem txq_New.calls (w : World) : Calls Tryz.prog 38 #[] w fun e w' => (∃ g, e = .returned (.pointer (some ⟨g, 0, none⟩))) ∧ Below w.heap.size w w' := by
  go_enter Tryz.func38, Tryz.ntmps38
  go_wp2_with (fail)
  go_ret
  exact ⟨⟨_, rfl⟩, (Below.refl _ _).alloc (Nat.le_refl _) _⟩
set_option maxHeartbeats 4000000 in
set_option maxRecDepth 100000 in
theorem ui_New.calls (a0_0 : ByteArray) (a0_1 : Int) (rb : Bool) (w : World) (h : call_Right.f a0_0 a0_1 = some rb) :
    Calls Tryz.prog 41 #[.agg #[.string a0_0, .int .i64 a0_1]] w fun e w' => (∃ p : Option Addr, e = .returned (.tuple #[.pointer p, .int .i64 (if rb = true then 0 else 12)])) ∧ Below w.heap.size w w' := by
  have H := Aside0.mk h
  clear h
  have HB := Aside0.mk ((Below.refl w.heap.size w).alloc (Nat.le_refl _) (.cells #[.string a0_0, .int .i64 a0_1] 37 (0, 0)))
  have HX := Aside0.mk (heap_alloc_new w (.cells #[.string a0_0, .int .i64 a0_1] 37 (0, 0)))
  go_enter Tryz.func41, Tryz.ntmps41
  go_wp2_with (fail)
  (with_reducible refine (call_Right.calls a0_0 a0_1 rb _ H.out).mono ?_)
  rintro r w2 ⟨rfl, hb⟩
  have HX2 := Aside0.mk ((hb.block _ (lt_of_some HX.out)).trans HX.out)
  have HB2 := Aside0.mk (below_step HB.out hb)
  clear hb
  have k0 := (two_cell HX2.out).1
  have k1 := (two_cell HX2.out).2
  cases rb with
  | true =>
    go_wp2_with (fail)
    go_ret2
    exact ⟨⟨_, rfl⟩, below_alloc HB2.out _⟩
  | false =>
    go_wp2_with (fail)
    go_ret2
    exact ⟨⟨_, rfl⟩, HB2.out⟩
/-- What links.New tells. -/
def linksE (rb xr : Bool) : Int := if rb = true then (if xr = true then 0 else 1) else 12
theorem six_cell {w : World} {g : Nat} {v0 v1 v2 v3 v4 v5 : Value} {t : TypeId} (h : w.heap[g]? = some (.cells #[v0, v1, v2, v3, v4, v5] t (0, 0))) :
    w.cell? ⟨g, 0, none⟩ = some v0 ∧ w.cell? ⟨g, 1, none⟩ = some v1 ∧ w.cell? ⟨g, 2, none⟩ = some v2 ∧ w.cell? ⟨g, 3, none⟩ = some v3 ∧ w.cell? ⟨g, 4, none⟩ = some v4 ∧ w.cell? ⟨g, 5, none⟩ = some v5 := by
  simp [World.cell?, h]
set_option maxHeartbeats 4000000 in
set_option maxRecDepth 100000 in
theorem links_New.calls (a0_0 : ByteArray) (a0_1 : Int) (b0 b1 : Bool) (b2 b3 b4 b5 : Int) (rb xr : Bool) (w : World) (h : call_Right.f a0_0 a0_1 = some rb) (hx : xid_Right.f b0 b1 b2 b3 b4 b5 = some xr) :
    Calls Tryz.prog 32 #[.agg #[.string a0_0, .int .i64 a0_1], .agg #[.bool b0, .bool b1, .int .i64 b2, .int .i64 b3, .int .i64 b4, .int .i64 b5]] w fun e w' => (∃ p : Option Addr, e = .returned (.tuple #[.pointer p, .int .i64 (linksE rb xr)])) ∧ Below w.heap.size w w' := by
  have H := Aside0.mk h
  have HX := Aside0.mk hx
  clear h hx
  go_enter Tryz.func32, Tryz.ntmps32
  go_wp2_with (fail)
  have HB := Aside0.mk (below_alloc ((Below.refl w.heap.size w).alloc (Nat.le_refl _) (.cells #[.string a0_0, .int .i64 a0_1] 37 (0, 0))) (.cells #[.bool b0, .bool b1, .int .i64 b2, .int .i64 b3, .int .i64 b4, .int .i64 b5] 40 (0, 0)))
  have HG := Aside0.mk (heap_step_alloc (heap_alloc_new w (.cells #[.string a0_0, .int .i64 a0_1] 37 (0, 0))) (by simp) (.cells #[.bool b0, .bool b1, .int .i64 b2, .int .i64 b3, .int .i64 b4, .int .i64 b5] 40 (0, 0)))
  have HH := Aside0.mk (heap_alloc_new (w.alloc (.cells #[.string a0_0, .int .i64 a0_1] 37 (0, 0))) (.cells #[.bool b0, .bool b1, .int .i64 b2, .int .i64 b3, .int .i64 b4, .int .i64 b5] 40 (0, 0)))
  rw [World.size_alloc] at HH
  (with_reducible refine (call_Right.calls a0_0 a0_1 rb _ H.out).mono ?_)
  rintro r w2 ⟨rfl, hb⟩
  have HG2 := Aside0.mk ((hb.block _ (lt_of_some HG.out)).trans HG.out)
  have HH2 := Aside0.mk ((hb.block _ (lt_of_some HH.out)).trans HH.out)
  have HB2 := Aside0.mk (below_step HB.out hb)
  clear hb HB HG HH
  have k0 := (two_cell HG2.out).1
  have k1 := (two_cell HG2.out).2
  obtain ⟨j0, j1, j2, j3, j4, j5⟩ := six_cell HH2.out
  cases rb with
  | false =>
    go_wp2_with (fail)
    go_ret2
    exact ⟨⟨_, rfl⟩, HB2.out⟩
  | true =>
    go_wp2_with (fail)
    (with_reducible refine (xid_Right.calls b0 b1 b2 b3 b4 b5 xr _ HX.out).mono ?_)
    rintro r w3 ⟨rfl, hb⟩
    have HG3 := Aside0.mk ((hb.block _ (lt_of_some HG2.out)).trans HG2.out)
    have HH3 := Aside0.mk ((hb.block _ (lt_of_some HH2.out)).trans HH2.out)
    have HB3 := Aside0.mk (below_step HB2.out hb)
    clear hb HB2 HG2 HH2 k0 k1 j0 j1 j2 j3 j4 j5
    have k0 := (two_cell HG3.out).1
    have k1 := (two_cell HG3.out).2
    obtain ⟨j0, j1, j2, j3, j4, j5⟩ := six_cell HH3.out
    cases xr with
    | false =>
      go_wp2_with (fail)
      go_ret2
      exact ⟨⟨_, rfl⟩, HB3.out⟩
    | true =>
      go_wp2_with (fail)
      go_ret2
      exact ⟨⟨_, rfl⟩, below_alloc HB3.out _⟩
/-- Is a number a byte's? -/
def inB (n : Int) : Bool := decide (0 ≤ n) && decide (n ≤ 255)
theorem in_f (n : Int) : tnc_in.f n 255 = some (inB n) := by
  unfold tnc_in.f inB
  by_cases h : n ≥ 0
  · rw [if_pos h, decide_eq_true h, Bool.true_and]
  · rw [if_neg h, decide_eq_false h, Bool.false_and]
set_option maxHeartbeats 4000000 in
set_option maxRecDepth 100000 in
theorem numbers_calls (g : Nat) (w : World) : Calls Tryz.prog 64 #[.pointer (some ⟨g, 0, none⟩)] w fun e w' => e = .returned (.agg #[.pointer (some ⟨g, 0, none⟩), .pointer (some ⟨g, 1, none⟩), .pointer (some ⟨g, 2, none⟩), .pointer (some ⟨g, 3, none⟩)]) ∧ Below w.heap.size w w' := by
  go_enter Tryz.func64, Tryz.ntmps64
  go_wp2_with (fail)
  go_region_with (fail)
  all_goals go_wp2_with (fail)
  all_goals (refine bodyPost_ret (results_single rfl (.cell w.heap.size 145 #[.pointer (some ⟨g, 0, none⟩), .pointer (some ⟨g, 1, none⟩), .pointer (some ⟨g, 2, none⟩), .pointer (some ⟨g, 3, none⟩)] (0, 0) _ rfl ?hc Tryz.underlying145 rfl (by kernel_rfl) .nil)) rfl ?_; (case hc => exact heap_alloc_new w _); exact ⟨rfl, below_drew1 (below_alloc (Below.refl _ _) _)⟩)
def tncB (p0 p1 p2 p3 : Int) : Bool := inB p0 && (inB p1 && (inB p2 && inB p3))
def tncTo (p0 p1 p2 p3 : Int) : Nat → Bool
  | 0 => true
  | 1 => inB p0
  | 2 => inB p0 && inB p1
  | 3 => inB p0 && (inB p1 && inB p2)
  | _ => tncB p0 p1 p2 p3
theorem idx4_0 (a b c d : Value) (w : World) : (Instr.index 145 (.agg #[a, b, c, d]) (.int .i64 0)).run Tryz.prog w = .ok a w := by kernel_rfl
theorem idx4_1 (a b c d : Value) (w : World) : (Instr.index 145 (.agg #[a, b, c, d]) (.int .i64 1)).run Tryz.prog w = .ok b w := by kernel_rfl
theorem idx4_2 (a b c d : Value) (w : World) : (Instr.index 145 (.agg #[a, b, c, d]) (.int .i64 2)).run Tryz.prog w = .ok c w := by kernel_rfl
theorem idx4_3 (a b c d : Value) (w : World) : (Instr.index 145 (.agg #[a, b, c, d]) (.int .i64 3)).run Tryz.prog w = .ok d w := by kernel_rfl
set_option maxHeartbeats 4000000 in
set_option maxRecDepth 100000 in
theorem tnc_Right.calls (p0 p1 p2 p3 : Int) (p4 : Bool) (w : World) : Calls Tryz.prog 33 #[.agg #[.int .i64 p0, .int .i64 p1, .int .i64 p2, .int .i64 p3, .bool p4]] w fun e w' => e = .returned (.bool (tncB p0 p1 p2 p3)) ∧ Below w.heap.size w w' := by
  go_enter Tryz.func33, Tryz.ntmps33
  go_wp2_with (fail)
  (with_reducible refine (numbers_calls w.heap.size _).mono ?_)
  rintro r w2 ⟨rfl, hb⟩
  have HX := Aside0.mk ((hb.block w.heap.size (by simp)).trans (heap_alloc_new w _))
  have HB := Aside0.mk (below_step ((Below.refl w.heap.size w).alloc (Nat.le_refl _) _) hb)
  clear hb
  go_wp2_with (fail)
  go_loopw [6] (fun v6 wr => ∃ j : Nat, j ≤ 4 ∧ v6 = .int .i64 j ∧ tncTo p0 p1 p2 p3 j = true ∧ Aside0 (wr.heap[w.heap.size]? = some (.cells #[.int .i64 p0, .int .i64 p1, .int .i64 p2, .int .i64 p3, .bool p4] 42 (0, 0))) ∧ Aside0 (Below w.heap.size w wr)) (fun v6 _ => 4 - (intOf v6).toNat)
  case atStart => exact ⟨0, by omega, rfl, rfl, HX, HB⟩
  case round =>
    clear HX HB
    obtain ⟨j, hj, rfl, htk, HX, HB⟩ := hrel
    by_cases hlt : j < 4
    · rcases (show j = 0 ∨ j = 1 ∨ j = 2 ∨ j = 3 by omega) with rfl | rfl | rfl | rfl <;> simp only [tncTo, Bool.and_eq_true] at htk
      · have hcell := cell_of HX.out (j := 0) rfl
        cases hv : inB p0 with
        | true =>
          go_wp2_with (first | rw [idx4_0] | rw [idx4_1] | rw [idx4_2] | rw [idx4_3] | (go_at_call 65; (with_reducible refine (tnc_in.calls p0 255 (inB p0) _ (in_f p0)).mono ?_); rintro e w' ⟨rfl, ⟨nd, rfl⟩⟩; simp only [hv]))
          go_roundw
          case rel => exact ⟨1, by omega, rfl, by simp [tncTo, tncB, hv, htk], ⟨HX.out⟩, ⟨pw_below_drewN HB.out _⟩⟩
          case measure => simp [intOf]
        | false =>
          go_wp2_with (first | rw [idx4_0] | rw [idx4_1] | rw [idx4_2] | rw [idx4_3] | (go_at_call 65; (with_reducible refine (tnc_in.calls p0 255 (inB p0) _ (in_f p0)).mono ?_); rintro e w' ⟨rfl, ⟨nd, rfl⟩⟩; simp only [hv]))
          go_ret
          exact ⟨by simp [tncB, hv], pw_below_drewN HB.out _⟩
      · have hcell := cell_of HX.out (j := 1) rfl
        cases hv : inB p1 with
        | true =>
          go_wp2_with (first | rw [idx4_0] | rw [idx4_1] | rw [idx4_2] | rw [idx4_3] | (go_at_call 65; (with_reducible refine (tnc_in.calls p1 255 (inB p1) _ (in_f p1)).mono ?_); rintro e w' ⟨rfl, ⟨nd, rfl⟩⟩; simp only [hv]))
          go_roundw
          case rel => exact ⟨2, by omega, rfl, by simp [tncTo, tncB, hv, htk], ⟨HX.out⟩, ⟨pw_below_drewN HB.out _⟩⟩
          case measure => simp [intOf]
        | false =>
          go_wp2_with (first | rw [idx4_0] | rw [idx4_1] | rw [idx4_2] | rw [idx4_3] | (go_at_call 65; (with_reducible refine (tnc_in.calls p1 255 (inB p1) _ (in_f p1)).mono ?_); rintro e w' ⟨rfl, ⟨nd, rfl⟩⟩; simp only [hv]))
          go_ret
          exact ⟨by simp [tncB, hv], pw_below_drewN HB.out _⟩
      · have hcell := cell_of HX.out (j := 2) rfl
        cases hv : inB p2 with
        | true =>
          go_wp2_with (first | rw [idx4_0] | rw [idx4_1] | rw [idx4_2] | rw [idx4_3] | (go_at_call 65; (with_reducible refine (tnc_in.calls p2 255 (inB p2) _ (in_f p2)).mono ?_); rintro e w' ⟨rfl, ⟨nd, rfl⟩⟩; simp only [hv]))
          go_roundw
          case rel => exact ⟨3, by omega, rfl, by simp [tncTo, tncB, hv, htk], ⟨HX.out⟩, ⟨pw_below_drewN HB.out _⟩⟩
          case measure => simp [intOf]
        | false =>
          go_wp2_with (first | rw [idx4_0] | rw [idx4_1] | rw [idx4_2] | rw [idx4_3] | (go_at_call 65; (with_reducible refine (tnc_in.calls p2 255 (inB p2) _ (in_f p2)).mono ?_); rintro e w' ⟨rfl, ⟨nd, rfl⟩⟩; simp only [hv]))
          go_ret
          exact ⟨by simp [tncB, hv], pw_below_drewN HB.out _⟩
      · have hcell := cell_of HX.out (j := 3) rfl
        cases hv : inB p3 with
        | true =>
          go_wp2_with (first | rw [idx4_0] | rw [idx4_1] | rw [idx4_2] | rw [idx4_3] | (go_at_call 65; (with_reducible refine (tnc_in.calls p3 255 (inB p3) _ (in_f p3)).mono ?_); rintro e w' ⟨rfl, ⟨nd, rfl⟩⟩; simp only [hv]))
          go_roundw
          case rel => exact ⟨4, by omega, rfl, by simp [tncTo, tncB, hv, htk], ⟨HX.out⟩, ⟨pw_below_drewN HB.out _⟩⟩
          case measure => simp [intOf]
        | false =>
          go_wp2_with (first | rw [idx4_0] | rw [idx4_1] | rw [idx4_2] | rw [idx4_3] | (go_at_call 65; (with_reducible refine (tnc_in.calls p3 255 (inB p3) _ (in_f p3)).mono ?_); rintro e w' ⟨rfl, ⟨nd, rfl⟩⟩; simp only [hv]))
          go_ret
          exact ⟨by simp [tncB, hv], pw_below_drewN HB.out _⟩
    · obtain rfl : j = 4 := by omega
      go_wp2_with (fail)
      go_ret
      exact ⟨by rw [← htk]; rfl, HB.out⟩
end Go.Proofs.YtndgaeldndgioaaGreatDoor.QAll
end

section
/- Walks, written by a program of this session (wip/pp): a Go function comes to what the Lean function beside it tells. -/
namespace Go.Proofs.YtndgaeldndgioaaGreatDoor.QAll
open Go.RowKit Go.Proofs.YtndgaeldndgioaaGreatDoorW.PrintWords Go.Proofs.YtndgaeldndgioaaGreatDoorW.PrintLast Go.Proofs.YtndgaeldndgioaaGreatDoorW.PrintMore
attribute [local go_sem] max2_int min2_int max_two min_two max_three min_three max_four min_four
set_option linter.unusedVariables false
set_option linter.unusedSimpArgs false

/-- A state of type 192 at block g of W; what its slices lead to came in by w0. -/
def IsS192 (w0 W : World) (g : Nat) (f0 : List Int) (f1 : Bool) (f2 : Int) : Prop := ∃ A0 c0, W.heap[g]? = some (.cells #[.slice A0 f0.length c0, .bool f1, .int .i64 f2] 192 (0, 0)) ∧ w0.heap.size ≤ g ∧ Kd.C (Kd.int .u8) w0 A0 f0.length f0
def line_New.f  : Option (List Int × Bool × Int) := some (([] : List Int), false, 0)
set_option maxHeartbeats 8000000 in
set_option maxRecDepth 100000 in
theorem line_New.calls  (r1 : List Int) (r2 : Bool) (r3 : Int) (w0 w : World) (hB : Below w0.heap.size w0 w) (h : line_New.f  = some (r1, r2, r3)) :
  Calls Tryz.prog 66 #[] w fun e w' => ∃ g_ : Nat, e = .returned (.pointer (some ⟨g_, 0, none⟩)) ∧ IsS192 w0 w' g_ r1 r2 r3 ∧ Below w0.heap.size w0 w' ∧ Below w.heap.size w w' := by
 have hu192 := Tryz.underlying192
 have HBW := Aside0.mk (Below.refl w.heap.size w)
 have HW0 := Aside0.mk hB.size
 have HB := Aside0.mk hB
 clear hB
 have H : (some (([] : List Int), false, 0)) = some (r1, r2, r3) := h
 clear h
 simp only [Option.some.injEq, Prod.mk.injEq] at H
 obtain ⟨rfl, rfl, rfl⟩ := H
 go_enter Tryz.func66, Tryz.ntmps66
 go_wp2_with (first | ((with_reducible refine gate_dst (N := 2) rfl ?_); refine box_event ?hg (N := 2) ?hd (cs := #[.slice none 0 0, .bool false, .int .i64 0]) (t := 192) ?hr ?_; (case hd => rfl); (case hg => rfl); (case hr => first | (go_simp; done) | (go_simp; rfl)); intro gb251 hg w1 hbox hb; have n0_ := Aside0.mk (below_step HBW.out hb); have n1_ := Aside0.mk (below_step (by repeat (first | (with_reducible first | exact HB.out | apply below_alloc | apply pw_below_drewN | apply below_drew1) | exact HB.out)) hb); have n2_ := Aside0.mk (hbox); have n3_ := Aside0.mk ((by rw [hg]; exact (below_size (by repeat (first | (with_reducible first | exact HBW.out | apply below_alloc | apply pw_below_drewN | apply below_drew1) | exact HBW.out))) : w.heap.size ≤ gb251)); have n4_ := Aside0.mk ((Nat.le_trans HW0.out (by rw [hg]; exact (below_size (by repeat (first | (with_reducible first | exact HBW.out | apply below_alloc | apply pw_below_drewN | apply below_drew1) | exact HBW.out))) : w.heap.size ≤ gb251) : w0.heap.size ≤ gb251)); clear HBW; clear HB; have HBW := n0_; have HB := n1_; have BK251 := n2_; have GW251 := n3_; have GE251 := n4_; clear n0_ n1_ n2_ n3_ n4_; clear hb hbox hg))
 go_ret
 exact ⟨_, rfl, (show IsS192 w0 _ gb251 ([] : List Int) false 0 from ⟨none, 0, by (with_reducible repeat (first | refine blk_drewN ?_ _ | refine blk_drew ?_ | refine blk_alloc ?_ _)); exact BK251.out, GE251.out, (Kd.C_nil _ _)⟩), by repeat (first | (with_reducible first | exact HB.out | apply below_alloc | apply pw_below_drewN | apply below_drew1 | refine below_set ?_ GE251.out) | exact HB.out), by repeat (first | (with_reducible first | exact HBW.out | apply below_alloc | apply pw_below_drewN | apply below_drew1 | refine below_set ?_ GW251.out) | exact HBW.out)⟩

end Go.Proofs.YtndgaeldndgioaaGreatDoor.QAll
end

section
/- Walks, written by a program of this session (wip/pp): a Go function comes to what the Lean function beside it tells. -/
namespace Go.Proofs.YtndgaeldndgioaaGreatDoor.QAll
open Go.RowKit Go.Proofs.YtndgaeldndgioaaGreatDoorW.PrintWords Go.Proofs.YtndgaeldndgioaaGreatDoorW.PrintLast Go.Proofs.YtndgaeldndgioaaGreatDoorW.PrintMore
attribute [local go_sem] max2_int min2_int max_two min_two max_three min_three max_four min_four
set_option linter.unusedVariables false
set_option linter.unusedSimpArgs false

/-- A state of type 154 at block g of W; what its slices lead to came in by w0. -/
def IsS154 (w0 W : World) (g : Nat) (f0 : List (S258)) : Prop := ∃ A0 c0, W.heap[g]? = some (.cells #[.slice A0 f0.length c0] 154 (0, 0)) ∧ w0.heap.size ≤ g ∧ Kd.C k258 w0 A0 f0.length f0
def heard_New.f  : Option ((List (S258))) := some ([] : List (S258))
set_option maxHeartbeats 8000000 in
set_option maxRecDepth 100000 in
theorem heard_New.calls  (r : List (S258)) (w0 w : World) (hB : Below w0.heap.size w0 w) (h : heard_New.f  = some r) :
  Calls Tryz.prog 36 #[] w fun e w' => ∃ g_ : Nat, e = .returned (.pointer (some ⟨g_, 0, none⟩)) ∧ IsS154 w0 w' g_ r ∧ Below w0.heap.size w0 w' ∧ Below w.heap.size w w' := by
 have hu154 := Tryz.underlying154
 have HBW := Aside0.mk (Below.refl w.heap.size w)
 have HW0 := Aside0.mk hB.size
 have HB := Aside0.mk hB
 clear hB
 have H : (some ([] : List (S258))) = some r := h
 clear h
 obtain rfl := Option.some.inj H
 go_enter Tryz.func36, Tryz.ntmps36
 go_wp2_with (first | ((with_reducible refine gate_dst (N := 2) rfl ?_); refine box_event ?hg (N := 2) ?hd (cs := #[.slice none 0 0]) (t := 154) ?hr ?_; (case hd => rfl); (case hg => rfl); (case hr => first | (go_simp; done) | (go_simp; rfl)); intro gb248 hg w1 hbox hb; have n0_ := Aside0.mk (below_step HBW.out hb); have n1_ := Aside0.mk (below_step (by repeat (first | (with_reducible first | exact HB.out | apply below_alloc | apply pw_below_drewN | apply below_drew1) | exact HB.out)) hb); have n2_ := Aside0.mk (hbox); have n3_ := Aside0.mk ((by rw [hg]; exact (below_size (by repeat (first | (with_reducible first | exact HBW.out | apply below_alloc | apply pw_below_drewN | apply below_drew1) | exact HBW.out))) : w.heap.size ≤ gb248)); have n4_ := Aside0.mk ((Nat.le_trans HW0.out (by rw [hg]; exact (below_size (by repeat (first | (with_reducible first | exact HBW.out | apply below_alloc | apply pw_below_drewN | apply below_drew1) | exact HBW.out))) : w.heap.size ≤ gb248) : w0.heap.size ≤ gb248)); clear HBW; clear HB; have HBW := n0_; have HB := n1_; have BK248 := n2_; have GW248 := n3_; have GE248 := n4_; clear n0_ n1_ n2_ n3_ n4_; clear hb hbox hg))
 go_ret
 exact ⟨_, rfl, (show IsS154 w0 _ gb248 ([] : List (S258)) from ⟨none, 0, by (with_reducible repeat (first | refine blk_drewN ?_ _ | refine blk_drew ?_ | refine blk_alloc ?_ _)); exact BK248.out, GE248.out, (Kd.C_nil _ _)⟩), by repeat (first | (with_reducible first | exact HB.out | apply below_alloc | apply pw_below_drewN | apply below_drew1 | refine below_set ?_ GE248.out) | exact HB.out), by repeat (first | (with_reducible first | exact HBW.out | apply below_alloc | apply pw_below_drewN | apply below_drew1 | refine below_set ?_ GW248.out) | exact HBW.out)⟩

end Go.Proofs.YtndgaeldndgioaaGreatDoor.QAll
end

section
/- Walks, written by a program of this session (wip/pp): a Go function comes to what the Lean function beside it tells. -/
namespace Go.Proofs.YtndgaeldndgioaaGreatDoor.QAll
open Go.RowKit Go.Proofs.YtndgaeldndgioaaGreatDoorW.PrintWords Go.Proofs.YtndgaeldndgioaaGreatDoorW.PrintLast Go.Proofs.YtndgaeldndgioaaGreatDoorW.PrintMore
attribute [local go_sem] max2_int min2_int max_two min_two max_three min_three max_four min_four
set_option linter.unusedVariables false
set_option linter.unusedSimpArgs false

/-- A state of type 156 at block g of W; what its slices lead to came in by w0. -/
def IsS156 (w0 W : World) (g : Nat) (f0 : Int) (f1 : Bool) (f2 : Bool) (f3 : List Int) (f4 : Int) : Prop := ∃ A3 c3, W.heap[g]? = some (.cells #[.int .i64 f0, .bool f1, .bool f2, .slice A3 f3.length c3, .int .i64 f4] 156 (0, 0)) ∧ w0.heap.size ≤ g ∧ Kd.C (Kd.int .u8) w0 A3 f3.length f3
def kiss_New.f (a0 : Int) : Option (Int × Bool × Bool × List Int × Int) := some (mn (mx a0 1) 4096, false, false, ([] : List Int), 0)
set_option maxHeartbeats 8000000 in
set_option maxRecDepth 100000 in
theorem kiss_New.calls (a0 : Int) (r1 : Int) (r2 : Bool) (r3 : Bool) (r4 : List Int) (r5 : Int) (w0 w : World) (hB : Below w0.heap.size w0 w) (h : kiss_New.f a0 = some (r1, r2, r3, r4, r5)) :
  Calls Tryz.prog 37 #[.int .i64 a0] w fun e w' => ∃ g_ : Nat, e = .returned (.pointer (some ⟨g_, 0, none⟩)) ∧ IsS156 w0 w' g_ r1 r2 r3 r4 r5 ∧ Below w0.heap.size w0 w' ∧ Below w.heap.size w w' := by
 have hu156 := Tryz.underlying156
 have HBW := Aside0.mk (Below.refl w.heap.size w)
 have HW0 := Aside0.mk hB.size
 have HB := Aside0.mk hB
 clear hB
 have H : (some (mn (mx a0 1) 4096, false, false, ([] : List Int), 0)) = some (r1, r2, r3, r4, r5) := h
 clear h
 obtain ⟨ji2, hji2⟩ : ∃ j_ : Int, (mx a0 1) = j_ := ⟨_, rfl⟩
 replace H : (some (mn (ji2) 4096, false, false, ([] : List Int), 0)) = some (r1, r2, r3, r4, r5) := by first | (rw [hji2] at H; exact H) | (simp only [hji2] at H ⊢; exact H)
 (try (have hji2l : 1 ≤ ji2 := by (rw [← hji2]; unfold mx; (repeat' split) <;> omega)))
 (try (have hji2m : 0 ≤ ji2 := by omega))
 have hji2_ : (if a0 < 1 then 1 else a0) = ji2 := hji2
 obtain ⟨ji3, hji3⟩ : ∃ j_ : Int, (mn (ji2) 4096) = j_ := ⟨_, rfl⟩
 replace H : (some (ji3, false, false, ([] : List Int), 0)) = some (r1, r2, r3, r4, r5) := by first | (rw [hji3] at H; exact H) | (simp only [hji3] at H ⊢; exact H)
 have hji3_ : (if 4096 < (ji2) then 4096 else (ji2)) = ji3 := hji3
 simp only [Option.some.injEq, Prod.mk.injEq] at H
 obtain ⟨rfl, rfl, rfl, rfl, rfl⟩ := H
 go_enter Tryz.func37, Tryz.ntmps37
 go_wp2_with (first | ((with_reducible refine gate_dst (N := 7) rfl ?_); refine box_event ?hg (N := 7) ?hd (cs := #[.int .i64 ji3, .bool false, .bool false, .slice none 0 0, .int .i64 0]) (t := 156) ?hr ?_; (case hd => rfl); (case hg => rfl); (case hr => first | (go_simp; done) | (go_simp; rfl)); intro gb249 hg w4 hbox hb; have n0_ := Aside0.mk (below_step HBW.out hb); have n1_ := Aside0.mk (below_step (by repeat (first | (with_reducible first | exact HB.out | apply below_alloc | apply pw_below_drewN | apply below_drew1) | exact HB.out)) hb); have n2_ := Aside0.mk (hbox); have n3_ := Aside0.mk ((by rw [hg]; exact (below_size (by repeat (first | (with_reducible first | exact HBW.out | apply below_alloc | apply pw_below_drewN | apply below_drew1) | exact HBW.out))) : w.heap.size ≤ gb249)); have n4_ := Aside0.mk ((Nat.le_trans HW0.out (by rw [hg]; exact (below_size (by repeat (first | (with_reducible first | exact HBW.out | apply below_alloc | apply pw_below_drewN | apply below_drew1) | exact HBW.out))) : w.heap.size ≤ gb249) : w0.heap.size ≤ gb249)); clear HBW; clear HB; have HBW := n0_; have HB := n1_; have BK249 := n2_; have GW249 := n3_; have GE249 := n4_; clear n0_ n1_ n2_ n3_ n4_; clear hb hbox hg))
 go_ret
 exact ⟨_, rfl, (show IsS156 w0 _ gb249 ji3 false false ([] : List Int) 0 from ⟨none, 0, by (with_reducible repeat (first | refine blk_drewN ?_ _ | refine blk_drew ?_ | refine blk_alloc ?_ _)); exact BK249.out, GE249.out, (Kd.C_nil _ _)⟩), by repeat (first | (with_reducible first | exact HB.out | apply below_alloc | apply pw_below_drewN | apply below_drew1 | refine below_set ?_ GE249.out) | exact HB.out), by repeat (first | (with_reducible first | exact HBW.out | apply below_alloc | apply pw_below_drewN | apply below_drew1 | refine below_set ?_ GW249.out) | exact HBW.out)⟩

end Go.Proofs.YtndgaeldndgioaaGreatDoor.QAll
end

section
/- Walks, written by a program of this session (wip/pp): a Go function comes to what the Lean function beside it tells. -/
namespace Go.Proofs.YtndgaeldndgioaaGreatDoor.QAll
open Go.RowKit Go.Proofs.YtndgaeldndgioaaGreatDoorW.PrintWords Go.Proofs.YtndgaeldndgioaaGreatDoorW.PrintLast Go.Proofs.YtndgaeldndgioaaGreatDoorW.PrintMore
attribute [local go_sem] max2_int min2_int max_two min_two max_three min_three max_four min_four
set_option linter.unusedVariables false
set_option linter.unusedSimpArgs false

/-- A state of type 162 at block g of W; what its slices lead to came in by w0. -/
def IsS162 (w0 W : World) (g : Nat) (f0 : Int) : Prop := W.heap[g]? = some (.cells #[.int .i64 f0] 162 (0, 0)) ∧ w0.heap.size ≤ g
def csma_New.f  : Option (Int) := some 0
set_option maxHeartbeats 8000000 in
set_option maxRecDepth 100000 in
theorem csma_New.calls  (r : Int) (w0 w : World) (hB : Below w0.heap.size w0 w) (h : csma_New.f  = some r) :
  Calls Tryz.prog 39 #[] w fun e w' => ∃ g_ : Nat, e = .returned (.pointer (some ⟨g_, 0, none⟩)) ∧ IsS162 w0 w' g_ r ∧ Below w0.heap.size w0 w' ∧ Below w.heap.size w w' := by
 have hu162 := Tryz.underlying162
 have HBW := Aside0.mk (Below.refl w.heap.size w)
 have HW0 := Aside0.mk hB.size
 have HB := Aside0.mk hB
 clear hB
 have H : (some 0) = some r := h
 clear h
 obtain rfl := Option.some.inj H
 go_enter Tryz.func39, Tryz.ntmps39
 go_wp2_with (first | ((with_reducible refine gate_dst (N := 2) rfl ?_); refine box_event ?hg (N := 2) ?hd (cs := #[.int .i64 0]) (t := 162) ?hr ?_; (case hd => rfl); (case hg => rfl); (case hr => first | (go_simp; done) | (go_simp; rfl)); intro gb250 hg w1 hbox hb; have n0_ := Aside0.mk (below_step HBW.out hb); have n1_ := Aside0.mk (below_step (by repeat (first | (with_reducible first | exact HB.out | apply below_alloc | apply pw_below_drewN | apply below_drew1) | exact HB.out)) hb); have n2_ := Aside0.mk (hbox); have n3_ := Aside0.mk ((by rw [hg]; exact (below_size (by repeat (first | (with_reducible first | exact HBW.out | apply below_alloc | apply pw_below_drewN | apply below_drew1) | exact HBW.out))) : w.heap.size ≤ gb250)); have n4_ := Aside0.mk ((Nat.le_trans HW0.out (by rw [hg]; exact (below_size (by repeat (first | (with_reducible first | exact HBW.out | apply below_alloc | apply pw_below_drewN | apply below_drew1) | exact HBW.out))) : w.heap.size ≤ gb250) : w0.heap.size ≤ gb250)); clear HBW; clear HB; have HBW := n0_; have HB := n1_; have BK250 := n2_; have GW250 := n3_; have GE250 := n4_; clear n0_ n1_ n2_ n3_ n4_; clear hb hbox hg))
 go_ret
 exact ⟨_, rfl, (show IsS162 w0 _ gb250 0 from ⟨by (with_reducible repeat (first | refine blk_drewN ?_ _ | refine blk_drew ?_ | refine blk_alloc ?_ _)); exact BK250.out, GE250.out⟩), by repeat (first | (with_reducible first | exact HB.out | apply below_alloc | apply pw_below_drewN | apply below_drew1 | refine below_set ?_ GE250.out) | exact HB.out), by repeat (first | (with_reducible first | exact HBW.out | apply below_alloc | apply pw_below_drewN | apply below_drew1 | refine below_set ?_ GW250.out) | exact HBW.out)⟩

end Go.Proofs.YtndgaeldndgioaaGreatDoor.QAll
end

section
/- Walks, written by a program of this session (wip/pp): a Go function comes to what the Lean function beside it tells. -/
namespace Go.Proofs.YtndgaeldndgioaaGreatDoor.QAll
open Go.RowKit Go.Proofs.YtndgaeldndgioaaGreatDoorW.PrintWords Go.Proofs.YtndgaeldndgioaaGreatDoorW.PrintLast Go.Proofs.YtndgaeldndgioaaGreatDoorW.PrintMore
attribute [local go_sem] max2_int min2_int max_two min_two max_three min_three max_four min_four
set_option linter.unusedVariables false
set_option linter.unusedSimpArgs false

def call_Text.f (a0_0 : ByteArray) (a0_1 : Int) : Option (ByteArray) := (call_Right.f a0_0 a0_1).bind fun t252 => (if t252 = true then (if a0_1 = 0 then (some a0_0) else (if a0_0.size + 1 ≤ 9223372036854775807 then ((strconv_Itoa_28.f a0_1).bind fun t253 => (if (a0_0 ++ (⟨#[45]⟩ : ByteArray)).size + t253.size ≤ 9223372036854775807 then (some ((a0_0 ++ (⟨#[45]⟩ : ByteArray)) ++ t253)) else (none))) else (none))) else (some (⟨#[]⟩ : ByteArray)))
def call_Text.T5 : Bool × List (List Nat × List Nat) := (true, [([], []), ([0], [0]), ([1], [1]), ([], []), ([3], [3]), ([4], [4]), ([2, 5], [2, 5]), ([6, 5, 0, 1, 2, 3, 4, 5, 6], [6])])
def call_Text.B5 : List Nat := [0, 1, 3, 0, 8, 24, 63, 127]
theorem call_Text.tab5 : rtab .any (opsOf Tryz.f24 5) = call_Text.T5 := by kernel_rfl
theorem call_Text.bits5 : waitsOk call_Text.T5.2 call_Text.B5 = true := by kernel_rfl
set_option maxHeartbeats 8000000 in
set_option maxRecDepth 100000 in
theorem call_Text.calls (a0_0 : ByteArray) (a0_1 : Int) (r : ByteArray) (w : World) (hE_ : EnvW w) (h : call_Text.f a0_0 a0_1 = some r) :
  Calls Tryz.prog 24 #[.agg #[.string a0_0, .int .i64 a0_1]] w fun e w' => e = .returned (.string r) ∧ Below w.heap.size w w' := by
 have hu37 := Tryz.underlying37
 have HB := Aside0.mk (Below.refl w.heap.size w)
 have HE := Aside0.mk hE_
 clear hE_
 have H : ((call_Right.f a0_0 a0_1).bind fun t252 => (if t252 = true then (if a0_1 = 0 then (some a0_0) else (if a0_0.size + 1 ≤ 9223372036854775807 then ((strconv_Itoa_28.f a0_1).bind fun t253 => (if (a0_0 ++ (⟨#[45]⟩ : ByteArray)).size + t253.size ≤ 9223372036854775807 then (some ((a0_0 ++ (⟨#[45]⟩ : ByteArray)) ++ t253)) else (none))) else (none))) else (some (⟨#[]⟩ : ByteArray)))) = some r := h
 clear h
 replace H := Option.bind_eq_some_iff.mp H
 obtain ⟨t252, A20, H⟩ := H
 replace H : (if t252 = true then (if a0_1 = 0 then (some a0_0) else (if a0_0.size + 1 ≤ 9223372036854775807 then ((strconv_Itoa_28.f a0_1).bind fun t253 => (if (a0_0 ++ (⟨#[45]⟩ : ByteArray)).size + t253.size ≤ 9223372036854775807 then (some ((a0_0 ++ (⟨#[45]⟩ : ByteArray)) ++ t253)) else (none))) else (none))) else (some (⟨#[]⟩ : ByteArray))) = some r := H
 have A2 := Aside0.mk A20
 clear A20
 by_cases c3 : t252 = true
 ·subst c3
  have H1 : (if a0_1 = 0 then (some a0_0) else (if a0_0.size + 1 ≤ 9223372036854775807 then ((strconv_Itoa_28.f a0_1).bind fun t253 => (if (a0_0 ++ (⟨#[45]⟩ : ByteArray)).size + t253.size ≤ 9223372036854775807 then (some ((a0_0 ++ (⟨#[45]⟩ : ByteArray)) ++ t253)) else (none))) else (none))) = some r := by rw [if_pos rfl] at H; exact H
  clear H
  have H := H1
  clear H1
  by_cases c4 : a0_1 = 0
  ·rw [if_pos c4] at H
   have c4b0 : (a0_1 == 0) = true := beq_iff_eq.mpr c4
   have c4b1 : (a0_1 != 0) = false := bne_eq_false_iff_eq.mpr c4
   clear c4
   obtain rfl := Option.some.inj H
   go_enter Tryz.func24, Tryz.ntmps24
   go_wp2_with (first | ((with_reducible refine gate_dst (N := 1) rfl ?_); refine box_event ?hg (N := 1) ?hd (cs := #[.string a0_0, .int .i64 a0_1]) (t := 37) ?hr ?_; (case hd => rfl); (case hg => rfl); (case hr => first | (go_simp; done) | (go_simp; rfl)); intro gb251 hg w5 hbox hb; have n0_ := Aside0.mk (below_step (by repeat (first | (with_reducible first | exact HB.out | apply below_alloc | apply pw_below_drewN | apply below_drew1) | exact HB.out)) hb); have n1_ := Aside0.mk (hbox); have n2_ := Aside0.mk ((by rw [hg]; exact (below_size (by repeat (first | (with_reducible first | exact HB.out | apply below_alloc | apply pw_below_drewN | apply below_drew1) | exact HB.out))) : w.heap.size ≤ gb251)); have n3_ := Aside0.mk ((by rw [hg]; exact (below_size (by repeat (first | (with_reducible first | exact HB.out | apply below_alloc | apply pw_below_drewN | apply below_drew1) | exact HB.out))) : w.heap.size ≤ gb251)); clear HB; have HB := n0_; have BK251 := n1_; have GW251 := n2_; have GE251 := n3_; clear n0_ n1_ n2_ n3_; clear hb hbox hg; have hcz6_0 : w5.cell? ⟨gb251, 0, none⟩ = some (.string a0_0) := (blk_cell BK251.out 0).trans rfl; have hcz6_1 : w5.cell? ⟨gb251, 1, none⟩ = some (.int .i64 a0_1) := (blk_cell BK251.out 1).trans rfl; have hfz6_0 := blk_frozen BK251.out 0; have hfz6_1 := blk_frozen BK251.out 1) | ((with_reducible refine gate_callee (f := 57) rfl ?_); refine goesL_ (some 5) rfl rfl Tryz.func57 (by kernel_rfl) rfl #[.agg #[.string a0_0, .int .i64 a0_1]] rfl (by (try simp only [List.map_toArray, List.map_cons, List.map_nil]); first | done | rfl | (simp only [List.length_drop, List.length_take]; rfl)) ?_; (with_reducible refine (call_Right.calls a0_0 a0_1 true _ A2.out).mono ?_); rintro e w7 ⟨rfl, hb⟩; refine ⟨_, rfl, ?_⟩; have n0_ := Aside0.mk (blk_below (g := gb251) (o := .cells #[.string a0_0, .int .i64 a0_1] 37 (0, 0)) (by (with_reducible repeat (first | refine blk_drewN ?_ _ | refine blk_drew ?_ | refine blk_alloc ?_ _)); exact BK251.out) hb); have n1_ := Aside0.mk (below_step (by repeat (first | (with_reducible first | exact HB.out | apply below_alloc | apply pw_below_drewN | apply below_drew1 | refine below_set ?_ GE251.out) | exact HB.out)) hb); clear BK251; clear HB; have BK251 := n0_; have HB := n1_; clear n0_ n1_; (try clear hb); (try clear hb2); (try clear hk); (try clear hi); have hcz8_0 : w7.cell? ⟨gb251, 0, none⟩ = some (.string a0_0) := (blk_cell BK251.out 0).trans rfl; have hcz8_1 : w7.cell? ⟨gb251, 1, none⟩ = some (.int .i64 a0_1) := (blk_cell BK251.out 1).trans rfl; have hfz8_0 := blk_frozen BK251.out 0; have hfz8_1 := blk_frozen BK251.out 1))
   go_ret
   exact ⟨by first | rfl | (simp [errW_none, errW_some] <;> rfl) | (simp [*, errW_none, errW_some] <;> rfl), by repeat (first | (with_reducible first | exact HB.out | apply below_alloc | apply pw_below_drewN | apply below_drew1 | refine below_set ?_ GE251.out) | exact HB.out)⟩
  ·rw [if_neg c4] at H
   have c4b0 : (a0_1 == 0) = false := beq_eq_false_iff_ne.mpr c4
   have c4b1 : (a0_1 != 0) = true := bne_iff_ne.mpr c4
   by_cases c9 : a0_0.size + 1 ≤ 9223372036854775807
   ·rw [if_pos c9] at H
    have c9b0 := eq_true c9
    have c9b1 : decide (a0_0.size + 1 ≤ 9223372036854775807) = true := decide_eq_true c9
    try have c9b2 : (9223372036854775807 < a0_0.size + 1) = False := eq_false (Nat.not_lt.2 c9)
    replace H := Option.bind_eq_some_iff.mp H
    obtain ⟨t253, A100, H⟩ := H
    replace H : (if (a0_0 ++ (⟨#[45]⟩ : ByteArray)).size + t253.size ≤ 9223372036854775807 then (some ((a0_0 ++ (⟨#[45]⟩ : ByteArray)) ++ t253)) else (none)) = some r := H
    have A10 := Aside0.mk A100
    clear A100
    by_cases c11 : (a0_0 ++ (⟨#[45]⟩ : ByteArray)).size + t253.size ≤ 9223372036854775807
    ·rw [if_pos c11] at H
     have c11b0 := eq_true c11
     have c11b1 : decide ((a0_0 ++ (⟨#[45]⟩ : ByteArray)).size + t253.size ≤ 9223372036854775807) = true := decide_eq_true c11
     try have c11b2 : (9223372036854775807 < (a0_0 ++ (⟨#[45]⟩ : ByteArray)).size + t253.size) = False := eq_false (Nat.not_lt.2 c11)
     (try (have c11b5 := c11b2; simp only [ByteArray.size_append, show (⟨#[45]⟩ : ByteArray).size = 1 from rfl] at c11b5))
     obtain rfl := Option.some.inj H
     go_enter Tryz.func24, Tryz.ntmps24
     try go_wp2_with (first | ((with_reducible refine gate_dst (N := 1) rfl ?_); refine box_event ?hg (N := 1) ?hd (cs := #[.string a0_0, .int .i64 a0_1]) (t := 37) ?hr ?_; (case hd => rfl); (case hg => rfl); (case hr => first | (go_simp; done) | (go_simp; rfl)); intro gb251 hg w12 hbox hb; have n0_ := Aside0.mk (below_step (by repeat (first | (with_reducible first | exact HB.out | apply below_alloc | apply pw_below_drewN | apply below_drew1) | exact HB.out)) hb); have n1_ := Aside0.mk (hbox); have n2_ := Aside0.mk ((by rw [hg]; exact (below_size (by repeat (first | (with_reducible first | exact HB.out | apply below_alloc | apply pw_below_drewN | apply below_drew1) | exact HB.out))) : w.heap.size ≤ gb251)); have n3_ := Aside0.mk ((by rw [hg]; exact (below_size (by repeat (first | (with_reducible first | exact HB.out | apply below_alloc | apply pw_below_drewN | apply below_drew1) | exact HB.out))) : w.heap.size ≤ gb251)); clear HB; have HB := n0_; have BK251 := n1_; have GW251 := n2_; have GE251 := n3_; clear n0_ n1_ n2_ n3_; clear hb hbox hg; have hcz13_0 : w12.cell? ⟨gb251, 0, none⟩ = some (.string a0_0) := (blk_cell BK251.out 0).trans rfl; have hcz13_1 : w12.cell? ⟨gb251, 1, none⟩ = some (.int .i64 a0_1) := (blk_cell BK251.out 1).trans rfl; have hfz13_0 := blk_frozen BK251.out 0; have hfz13_1 := blk_frozen BK251.out 1) | ((with_reducible refine gate_callee (f := 57) rfl ?_); refine goesL_ (some 5) rfl rfl Tryz.func57 (by kernel_rfl) rfl #[.agg #[.string a0_0, .int .i64 a0_1]] rfl (by (try simp only [List.map_toArray, List.map_cons, List.map_nil]); first | done | rfl | (simp only [List.length_drop, List.length_take]; rfl)) ?_; (with_reducible refine (call_Right.calls a0_0 a0_1 true _ A2.out).mono ?_); rintro e w14 ⟨rfl, hb⟩; refine ⟨_, rfl, ?_⟩; have n0_ := Aside0.mk (blk_below (g := gb251) (o := .cells #[.string a0_0, .int .i64 a0_1] 37 (0, 0)) (by (with_reducible repeat (first | refine blk_drewN ?_ _ | refine blk_drew ?_ | refine blk_alloc ?_ _)); exact BK251.out) hb); have n1_ := Aside0.mk (below_step (by repeat (first | (with_reducible first | exact HB.out | apply below_alloc | apply pw_below_drewN | apply below_drew1 | refine below_set ?_ GE251.out) | exact HB.out)) hb); clear BK251; clear HB; have BK251 := n0_; have HB := n1_; clear n0_ n1_; (try clear hb); (try clear hb2); (try clear hk); (try clear hi); have hcz15_0 : w14.cell? ⟨gb251, 0, none⟩ = some (.string a0_0) := (blk_cell BK251.out 0).trans rfl; have hcz15_1 : w14.cell? ⟨gb251, 1, none⟩ = some (.int .i64 a0_1) := (blk_cell BK251.out 1).trans rfl; have hfz15_0 := blk_frozen BK251.out 0; have hfz15_1 := blk_frozen BK251.out 1))
     have n0_ := Aside0.mk (blk_drew BK251.out)
     have n1_ := Aside0.mk (below_drew1 HB.out)
     clear BK251
     clear HB
     have BK251 := n0_
     have HB := n1_
     clear n0_ n1_
     refine start_ (n := 8) (S := fun w' => w'.cell? ⟨gb251, 0, none⟩ = some (.string a0_0) ∧ w'.cell? ⟨gb251, 1, none⟩ = some (.int .i64 a0_1)) (ds := []) #[false, false, false, false, false, false, false, false] (by kernel_rfl) rfl rfl ⟨(blk_cell BK251.out 0).trans rfl, (blk_cell BK251.out 1).trans rfl⟩ (fun hHeld => ?_); refine with_tabW call_Text.tab5 call_Text.bits5 (fun HT_ HW_ => ?_)
     generalize w14.drew = w16 at BK251 HB hHeld ⊢
     refine pure_ (i := 0) (N := some 13) (v := ?_) (a' := ?_) #[true, false, false, false, false, false, false, false] rfl rfl (any_of HT_.out (by kernel_rfl)) (fun _ _ _ h => h) (Or.inl ⟨by rfl, ?_⟩) ?_ ?_
     rotate_left
     ·intro w'
      go_simp
      with_reducible rfl
     rotate_left
     ·simp only [Act.put, List.setIfInBounds_toArray, List.set_cons_zero, List.set_cons_succ, i64_w, i32_w]
      rfl
     refine pure_ (i := 3) (N := some 16) (v := ?_) (a' := ?_) #[true, false, false, true, false, false, false, false] rfl rfl (any_of HT_.out (by kernel_rfl)) (fun _ _ _ h => h) (Or.inl ⟨by rfl, ?_⟩) ?_ ?_
     rotate_left
     ·intro w'
      go_simp
      with_reducible rfl
     rotate_left
     ·simp only [Act.put, List.setIfInBounds_toArray, List.set_cons_zero, List.set_cons_succ, i64_w, i32_w]
      rfl
     refine take_ (i := 1) (N := some 14) (v := ?_) (a' := ?_) #[true, true, false, true, false, false, false, false] rfl rfl (take_ofW HT_.out HW_.out (by kernel_rfl)) (fun _ _ _ h => h) (Or.inl ⟨by rfl, ?_⟩) hHeld ?_ ?_
     rotate_left
     ·rintro w' ⟨s0, s1⟩
      go_simp
      with_reducible rfl
     rotate_left
     ·simp only [Act.put, List.setIfInBounds_toArray, List.set_cons_zero, List.set_cons_succ, i64_w, i32_w]
      rfl
     refine pure_ (i := 2) (N := some 15) (v := ?_) (a' := ?_) #[true, true, true, true, false, false, false, false] rfl rfl (any_of HT_.out (by kernel_rfl)) (fun _ _ _ h => h) (Or.inl ⟨by rfl, ?_⟩) ?_ ?_
     rotate_left
     ·intro w'
      go_simp
      with_reducible rfl
     rotate_left
     ·simp only [Act.put, List.setIfInBounds_toArray, List.set_cons_zero, List.set_cons_succ, i64_w, i32_w]
      rfl
     refine take_ (i := 4) (N := some 17) (v := ?_) (a' := ?_) #[true, true, true, true, true, false, false, false] rfl rfl (take_ofW HT_.out HW_.out (by kernel_rfl)) (fun _ _ _ h => h) (Or.inl ⟨by rfl, ?_⟩) hHeld ?_ ?_
     rotate_left
     ·rintro w' ⟨s0, s1⟩
      go_simp
      with_reducible rfl
     rotate_left
     ·simp only [Act.put, List.setIfInBounds_toArray, List.set_cons_zero, List.set_cons_succ, i64_w, i32_w]
      rfl
     refine one_ (i := 5) (N := some 18) #[true, true, true, true, true, true, false, false] rfl rfl (one_of HT_.out (by kernel_rfl)) (by decide) (fun K hK => ?_)
     refine goes_ Tryz.func28 (by kernel_rfl) rfl #[.int .i64 a0_1] (by rfl) rfl rfl (by (try simp only [List.map_toArray, List.map_cons, List.map_nil]); first | done | rfl | (simp only [List.length_drop, List.length_take]; rfl)) ?_
     with_reducible refine (strconv_Itoa_28.calls a0_1 t253 _ ?side1 A10.out).mono ?_
     (case side1 => exact EnvW.below HE.out (by repeat (first | (with_reducible first | exact HB.out | apply below_alloc | apply pw_below_drewN | apply below_drew1 | refine below_set ?_ GE251.out) | exact HB.out)))
     rintro e w17 ⟨rfl, hb⟩
     refine ⟨_, rfl, ?_⟩
     have n0_ := Aside0.mk (blk_below (g := gb251) (o := .cells #[.string a0_0, .int .i64 a0_1] 37 (0, 0)) (by (with_reducible repeat (first | refine blk_drewN ?_ _ | refine blk_drew ?_ | refine blk_alloc ?_ _)); exact BK251.out) hb)
     have n1_ := Aside0.mk (below_step (by repeat (first | (with_reducible first | exact HB.out | apply below_alloc | apply pw_below_drewN | apply below_drew1 | refine below_set ?_ GE251.out) | exact HB.out)) hb)
     clear BK251
     clear HB
     have BK251 := n0_
     have HB := n1_
     clear n0_ n1_
     (try clear hb)
     (try clear hb2)
     (try clear hk)
     (try clear hi)
     refine hK.out _ _ ⟨(blk_cell BK251.out 0).trans rfl, (blk_cell BK251.out 1).trans rfl⟩ (fun hHeld => ?_)
     clear hK K
     refine norm_ (a' := ?_) ?_ ?_
     rotate_left
     ·show Act.put _ (some 18) _ = _
      simp only [Act.put, List.setIfInBounds_toArray, List.set_cons_zero, List.set_cons_succ, i64_w, i32_w]
      rfl
     refine pure_ (i := 6) (N := some 19) (v := ?_) (a' := ?_) #[true, true, true, true, true, true, true, false] rfl rfl (any_of HT_.out (by kernel_rfl)) (fun _ _ _ h => h) (Or.inl ⟨by rfl, ?_⟩) ?_ ?_
     rotate_left
     ·intro w'
      go_simp
      with_reducible rfl
     rotate_left
     ·simp only [Act.put, List.setIfInBounds_toArray, List.set_cons_zero, List.set_cons_succ, i64_w, i32_w]
      rfl
     refine pure_ (i := 7) (N := some 2) (v := ?_) (a' := ?_) #[true, true, true, true, true, true, true, true] rfl rfl (any_of HT_.out (by kernel_rfl)) (fun _ _ _ h => h) (Or.inl ⟨by rfl, ?_⟩) ?_ ?_
     rotate_left
     ·intro w'
      go_simp
      with_reducible rfl
     rotate_left
     ·simp only [Act.put, List.setIfInBounds_toArray, List.set_cons_zero, List.set_cons_succ, i64_w, i32_w]
      rfl
     refine done_ (done_of HT_.out (by kernel_rfl)) ?_
     try go_wp2
     go_ret
     exact ⟨by first | rfl | (simp [errW_none, errW_some] <;> rfl) | (simp [*, errW_none, errW_some] <;> rfl), by repeat (first | (with_reducible first | exact HB.out | apply below_alloc | apply pw_below_drewN | apply below_drew1 | refine below_set ?_ GE251.out) | exact HB.out)⟩
    ·rw [if_neg c11] at H
     exact absurd H (by simp)
   ·rw [if_neg c9] at H
    exact absurd H (by simp)
 ·replace c3 := Bool.eq_false_iff.mpr c3
  subst c3
  have H1 : (some (⟨#[]⟩ : ByteArray)) = some r := by rw [if_neg (show ¬ (false = true) by decide)] at H; exact H
  clear H
  have H := H1
  clear H1
  obtain rfl := Option.some.inj H
  go_enter Tryz.func24, Tryz.ntmps24
  go_wp2_with (first | ((with_reducible refine gate_dst (N := 1) rfl ?_); refine box_event ?hg (N := 1) ?hd (cs := #[.string a0_0, .int .i64 a0_1]) (t := 37) ?hr ?_; (case hd => rfl); (case hg => rfl); (case hr => first | (go_simp; done) | (go_simp; rfl)); intro gb251 hg w18 hbox hb; have n0_ := Aside0.mk (below_step (by repeat (first | (with_reducible first | exact HB.out | apply below_alloc | apply pw_below_drewN | apply below_drew1) | exact HB.out)) hb); have n1_ := Aside0.mk (hbox); have n2_ := Aside0.mk ((by rw [hg]; exact (below_size (by repeat (first | (with_reducible first | exact HB.out | apply below_alloc | apply pw_below_drewN | apply below_drew1) | exact HB.out))) : w.heap.size ≤ gb251)); have n3_ := Aside0.mk ((by rw [hg]; exact (below_size (by repeat (first | (with_reducible first | exact HB.out | apply below_alloc | apply pw_below_drewN | apply below_drew1) | exact HB.out))) : w.heap.size ≤ gb251)); clear HB; have HB := n0_; have BK251 := n1_; have GW251 := n2_; have GE251 := n3_; clear n0_ n1_ n2_ n3_; clear hb hbox hg; have hcz19_0 : w18.cell? ⟨gb251, 0, none⟩ = some (.string a0_0) := (blk_cell BK251.out 0).trans rfl; have hcz19_1 : w18.cell? ⟨gb251, 1, none⟩ = some (.int .i64 a0_1) := (blk_cell BK251.out 1).trans rfl; have hfz19_0 := blk_frozen BK251.out 0; have hfz19_1 := blk_frozen BK251.out 1) | ((with_reducible refine gate_callee (f := 57) rfl ?_); refine goesL_ (some 5) rfl rfl Tryz.func57 (by kernel_rfl) rfl #[.agg #[.string a0_0, .int .i64 a0_1]] rfl (by (try simp only [List.map_toArray, List.map_cons, List.map_nil]); first | done | rfl | (simp only [List.length_drop, List.length_take]; rfl)) ?_; (with_reducible refine (call_Right.calls a0_0 a0_1 false _ A2.out).mono ?_); rintro e w20 ⟨rfl, hb⟩; refine ⟨_, rfl, ?_⟩; have n0_ := Aside0.mk (blk_below (g := gb251) (o := .cells #[.string a0_0, .int .i64 a0_1] 37 (0, 0)) (by (with_reducible repeat (first | refine blk_drewN ?_ _ | refine blk_drew ?_ | refine blk_alloc ?_ _)); exact BK251.out) hb); have n1_ := Aside0.mk (below_step (by repeat (first | (with_reducible first | exact HB.out | apply below_alloc | apply pw_below_drewN | apply below_drew1 | refine below_set ?_ GE251.out) | exact HB.out)) hb); clear BK251; clear HB; have BK251 := n0_; have HB := n1_; clear n0_ n1_; (try clear hb); (try clear hb2); (try clear hk); (try clear hi)))
  go_ret
  exact ⟨by first | rfl | (simp [errW_none, errW_some] <;> rfl) | (simp [*, errW_none, errW_some] <;> rfl), by repeat (first | (with_reducible first | exact HB.out | apply below_alloc | apply pw_below_drewN | apply below_drew1 | refine below_set ?_ GE251.out) | exact HB.out)⟩

end Go.Proofs.YtndgaeldndgioaaGreatDoor.QAll
end

section
/- Walks, written by a program of this session (wip/pp): a Go function comes to what the Lean function beside it tells. -/
namespace Go.Proofs.YtndgaeldndgioaaGreatDoor.QAll
open Go.RowKit Go.Proofs.YtndgaeldndgioaaGreatDoorW.PrintWords Go.Proofs.YtndgaeldndgioaaGreatDoorW.PrintLast Go.Proofs.YtndgaeldndgioaaGreatDoorW.PrintMore
attribute [local go_sem] max2_int min2_int max_two min_two max_three min_three max_four min_four
set_option linter.unusedVariables false
set_option linter.unusedSimpArgs false

def script_aliases.l0 : Nat → List ByteArray → List (S37) → Int → Int → Option (ByteArray)
 | 0, _, _, _, _ => none
 | k + 1, x3, x6, x7, x8 => if x8 < x7 then (if 0 ≤ x8 then (if x8 < (x6.length : Int) then ((call_Text.f ((rd_T37 x6 x8).f0) ((rd_T37 x6 x8).f1)).bind fun t256 => (if x3.length < 8796093022208 then (script_aliases.l0 k (x3 ++ [t256]) x6 x7 (wrap64 (x8 + 1))) else (none))) else (none)) else (none)) else (if (x3.length : Int) = 0 then (some (⟨#[45]⟩ : ByteArray)) else ((strings_Join.f x3 (⟨#[44]⟩ : ByteArray)).bind fun t260 => (some t260)))
def script_aliases.f (k : Nat) (l0 : List (S37)) : Option (ByteArray) := script_aliases.l0 k ([] : List ByteArray) l0 (l0.length : Int) 0
set_option maxHeartbeats 8000000 in
set_option maxRecDepth 100000 in
theorem script_aliases.calls (k : Nat) (A0 : Option Addr) (c0 : Nat) (l0 : List (S37)) (r : ByteArray) (w : World) (hE_ : EnvW w) (hr0 : Kd.C k37 w A0 l0.length l0) (hc0 : l0.length ≤ c0) (h : script_aliases.f k l0 = some r) :
  Calls Tryz.prog 25 #[.slice A0 l0.length c0] w fun e w' => e = .returned (.string r) ∧ Below w.heap.size w w' := by
 have hu37 := Tryz.underlying37
 have HR0 := Aside0.mk hr0
 have HC0 := Aside0.mk hc0
 clear hr0 hc0
 have HB := Aside0.mk (Below.refl w.heap.size w)
 have HE := Aside0.mk hE_
 clear hE_
 have H : (script_aliases.l0 k ([] : List ByteArray) l0 (l0.length : Int) 0) = some r := h
 clear h
 have H' := Aside0.mk H
 clear H
 go_enter Tryz.func25, Tryz.ntmps25
 go_wp2
 go_loopg [3, 8] k (fun kq v3 v8 w' => ∃ (x3_1 : List ByteArray) (x8_1 : Int), v8 = .int .i64 x8_1 ∧ Aside0 (script_aliases.l0 kq x3_1 l0 (l0.length : Int) x8_1 = some r) ∧ Aside0 (kq ≤ k) ∧ Aside0 (Kd.R Kd.string 9 w' w.heap.size (fun _ => True) v3 x3_1) ∧ Aside0 (Below w.heap.size w w'))
 case atStart => exact ⟨(([] : List ByteArray)), (0), (by first | rfl | (simp; done) | (simp [*]; done) | (simp; exact (fun l : List UInt8 => (by cases l <;> rfl : l.isEmpty = !(l != []))) _)), H', ⟨Nat.le_refl _⟩, ⟨by first | exact Kd.R_nil _ _ _ _ _ | exact Kd.N_nil _ _ _ _ _ | exact Kd.V_nil _ _ _ _ _ | exact Kd.Q_nil _ _ _ _ _ | exact Kd.S_nil _ _ _ _ _⟩, ⟨by repeat (first | (with_reducible first | exact HB.out | apply below_alloc | apply pw_below_drewN | apply below_drew1) | exact HB.out)⟩⟩
 case round =>
  clear H'
  obtain ⟨x3_1, x8_1, rfl, HA, HK1, HO_3, HB⟩ := hrel
  cases gk with
  | zero => exact absurd HA.out (by simp [script_aliases.l0])
  | succ k1 =>
   have H := HA.out
   clear HA
   simp only [script_aliases.l0] at H
   by_cases c2 : x8_1 < (l0.length : Int)
   ·rw [if_pos c2] at H
    have c2b0 : decide (x8_1 < (l0.length : Int)) = true := decide_eq_true c2
    clear c2
    by_cases c3 : 0 ≤ x8_1
    ·rw [if_pos c3] at H
     have c3b0 : decide (0 ≤ x8_1) = true := decide_eq_true c3
     clear c3
     by_cases c4 : x8_1 < (l0.length : Int)
     ·rw [if_pos c4] at H
      have c4b0 : decide (x8_1 < (l0.length : Int)) = true := decide_eq_true c4
      clear c4
      replace H := Option.bind_eq_some_iff.mp H
      obtain ⟨t256, A50, H⟩ := H
      replace H : (if x3_1.length < 8796093022208 then (script_aliases.l0 k1 (x3_1 ++ [t256]) l0 (l0.length : Int) (wrap64 (x8_1 + 1))) else (none)) = some r := H
      have A5 := Aside0.mk A50
      clear A50
      by_cases c6 : x3_1.length < 8796093022208
      ·rw [if_pos c6] at H
       have LMc6 := Aside0.mk c6
       clear c6
       obtain ⟨y257, hy257⟩ : ∃ y_ : List ByteArray, y_ = (x3_1 ++ [t256]) := ⟨_, rfl⟩
       replace H : (script_aliases.l0 k1 y257 l0 (l0.length : Int) (wrap64 (x8_1 + 1))) = some r := by first | (rw [hy257]; with_reducible exact H) | (have H2_ := (Option.bind_some _ _).symm.trans H; rw [hy257]; with_reducible exact H2_) | (have H2_ := (Option.bind_some _ _).symm.trans H; with_reducible exact H2_) | with_reducible exact H | (rw [hy257]; exact H) | exact H
       have Ny257 := Aside0.mk hy257
       clear hy257
       have H' := Aside0.mk H
       clear H
       have p254 : 0 ≤ (x8_1 : Int) := of_decide_eq_true (by first | (with_reducible assumption) | assumption)
       have q254 : x8_1 < (l0.length : Int) := of_decide_eq_true (by first | (with_reducible assumption) | assumption)
       obtain ⟨ad254, e254, hx254_0, hx254_1⟩ := at_T37 HR0.out x8_1 p254 q254
       cases e254
       replace hx254_0 := (HB.out.cell (World.block_lt_of_cell? w _ hx254_0)).trans hx254_0
       replace hx254_1 := (HB.out.cell (World.block_lt_of_cell? w _ hx254_1)).trans hx254_1
       replace p254 := eq_true p254
       replace q254 := eq_true q254
       go_wp2_with (first | ((with_reducible refine gate_dst (N := 5) rfl ?_); refine box_event ?hg (N := 5) ?hd (cs := #[.string (⟨#[]⟩ : ByteArray), .int .i64 0]) (t := 37) ?hr ?_; (case hd => rfl); (case hg => rfl); (case hr => first | (go_simp; done) | (go_simp; rfl)); intro gb255 hg w7 hbox hb; have n0_ := Aside0.mk (Kd.R_below (by (with_reducible repeat (first | apply Kd.R_alloc | apply Kd.R_drewN | apply Kd.R_drew)); exact HO_3.out) hb); have n1_ := Aside0.mk (below_step (by repeat (first | (with_reducible first | exact HB.out | apply below_alloc | apply pw_below_drewN | apply below_drew1) | exact HB.out)) hb); have n2_ := Aside0.mk (hbox); have n3_ := Aside0.mk ((by rw [hg]; exact (below_size (by repeat (first | (with_reducible first | exact HB.out | apply below_alloc | apply pw_below_drewN | apply below_drew1) | exact HB.out))) : w.heap.size ≤ gb255)); have n4_ := Aside0.mk ((by rw [hg]; exact (below_size (by repeat (first | (with_reducible first | exact HB.out | apply below_alloc | apply pw_below_drewN | apply below_drew1) | exact HB.out))) : w.heap.size ≤ gb255)); clear HO_3; clear HB; have HO_3 := n0_; have HB := n1_; have BK255 := n2_; have GW255 := n3_; have GE255 := n4_; clear n0_ n1_ n2_ n3_ n4_; clear hb hbox hg; have hcz8_0 : w7.cell? ⟨gb255, 0, none⟩ = some (.string (⟨#[]⟩ : ByteArray)) := (blk_cell BK255.out 0).trans rfl; have hcz8_1 : w7.cell? ⟨gb255, 1, none⟩ = some (.int .i64 0) := (blk_cell BK255.out 1).trans rfl; have hfz8_0 := blk_frozen BK255.out 0; have hfz8_1 := blk_frozen BK255.out 1) | ((with_reducible refine gate_callee (f := 24) rfl ?_); refine goesL_ (some 14) rfl rfl Tryz.func24 (by kernel_rfl) rfl #[.agg #[.string ((rd_T37 l0 x8_1).f0), .int .i64 ((rd_T37 l0 x8_1).f1)]] rfl (by (try simp only [List.map_toArray, List.map_cons, List.map_nil]); first | done | rfl | (simp only [List.length_drop, List.length_take]; rfl)) ?_; (with_reducible refine (call_Text.calls ((rd_T37 l0 x8_1).f0) ((rd_T37 l0 x8_1).f1) t256 _ ?side1 A5.out).mono ?_); (case side1 => exact EnvW.below HE.out (by repeat (first | (with_reducible first | exact HB.out | apply below_alloc | apply pw_below_drewN | apply below_drew1 | refine below_set ?_ GE255.out) | exact HB.out))); rintro e w9 ⟨rfl, hb⟩; refine ⟨_, rfl, ?_⟩; have n0_ := Aside0.mk (Kd.R_below (by (with_reducible repeat (first | apply Kd.R_alloc | apply Kd.R_drewN | apply Kd.R_drew)); exact (Kd.R_mono (Kd.R_far (p := ⟨gb255, 1, none⟩) (Kd.R_far (p := ⟨gb255, 0, none⟩) (Kd.R_types HO_3.out BK255.out (by decide)) (fun _ hk => hk.2) (.string ((rd_T37 l0 x8_1).f0))) (fun _ hk => hk.2) (.int .i64 ((rd_T37 l0 x8_1).f1))) (fun _ h_ => h_.1))) hb); have n1_ := Aside0.mk (blk_below (g := gb255) (o := .cells #[.string ((rd_T37 l0 x8_1).f0), .int .i64 ((rd_T37 l0 x8_1).f1)] 37 (0, 0)) (by (with_reducible repeat (first | refine blk_drewN ?_ _ | refine blk_drew ?_ | refine blk_alloc ?_ _)); refine blk_put (cs := #[.string ((rd_T37 l0 x8_1).f0), .int .i64 0]) ?_ 1 _ rfl; (with_reducible repeat (first | refine blk_drewN ?_ _ | refine blk_drew ?_ | refine blk_alloc ?_ _)); refine blk_put (cs := #[.string (⟨#[]⟩ : ByteArray), .int .i64 0]) ?_ 0 _ rfl; (with_reducible repeat (first | refine blk_drewN ?_ _ | refine blk_drew ?_ | refine blk_alloc ?_ _)); exact BK255.out) hb); have n2_ := Aside0.mk (below_step (by repeat (first | (with_reducible first | exact HB.out | apply below_alloc | apply pw_below_drewN | apply below_drew1 | refine below_set ?_ GE255.out) | exact HB.out)) hb); clear HO_3; clear BK255; clear HB; have HO_3 := n0_; have BK255 := n1_; have HB := n2_; clear n0_ n1_ n2_; (try clear hb); (try clear hb2); (try clear hk); (try clear hi)) | ((with_reducible refine gate_builtin (b := .append) (xs := #[.tmp 12, .tmp 15]) rfl ?_); at_builtin; refine Kd.R_append Kd.string (w0 := w) w.heap.size rfl (.tmp 12) (.tmp 15) 52 9 (.string ⟨#[]⟩) 16 rfl Tryz.underlying52 info9 rfl (by decide) (by omega) u3 x3_1 t256 [.string t256] (fun _ => True) (fun _ => False) rfl rfl ?aP (fun _ hk => hk.elim) ?aF ?aO ?aB ?aS ?aL ?_; (case aP => exact rfl); (case aB => exact (by repeat (first | (with_reducible first | exact HB.out | apply below_alloc | apply pw_below_drewN | apply below_drew1 | refine below_set ?_ GE255.out) | exact HB.out))); (case aF => exact (fun _ _ => trivial)); (case aO => exact (by (with_reducible repeat (first | apply Kd.R_alloc | apply Kd.R_drewN | apply Kd.R_drew)); exact HO_3.out)); (case aS => exact (below_size (by repeat (first | (with_reducible first | exact HB.out | apply below_alloc | apply pw_below_drewN | apply below_drew1 | refine below_set ?_ GE255.out) | exact HB.out)))); (case aL => have := LMc6.out; omega); intro v258 w10 ho hb hg hat; rw [← Ny257.out] at ho; have n0_ := Aside0.mk (blk_grown (g := gb255) (o := .cells #[.string ((rd_T37 l0 x8_1).f0), .int .i64 ((rd_T37 l0 x8_1).f1)] 37 (0, 0)) (by (with_reducible repeat (first | refine blk_drewN ?_ _ | refine blk_drew ?_ | refine blk_alloc ?_ _)); exact BK255.out) hg (Kd.R_ne HO_3.out BK255.out (by decide))); have n1_ := Aside0.mk (hb); have n2_ := Aside0.mk (ho); clear BK255; clear HB; clear HO_3; have BK255 := n0_; have HB := n1_; have HO259 := n2_; clear n0_ n1_ n2_; clear ho hb hg hat))
       go_roundg k1
       case measure => have := HK1.out; omega
       case rel => exact ⟨(y257), (wrap64 (x8_1 + 1)), (by first | rfl | (simp; done) | (simp [*]; done) | (simp; exact (fun l : List UInt8 => (by cases l <;> rfl : l.isEmpty = !(l != []))) _)), H', ⟨by have := HK1.out; omega⟩, ⟨by (with_reducible repeat (first | apply Kd.R_alloc | apply Kd.R_drewN | apply Kd.R_drew)); exact HO259.out⟩, ⟨by repeat (first | (with_reducible first | exact HB.out | apply below_alloc | apply pw_below_drewN | apply below_drew1 | refine below_set ?_ GE255.out) | exact HB.out)⟩⟩
      ·rw [if_neg c6] at H
       exact absurd H (by simp)
     ·rw [if_neg c4] at H
      exact absurd H (by simp)
    ·rw [if_neg c3] at H
     exact absurd H (by simp)
   ·rw [if_neg c2] at H
    have c2b0 : decide (x8_1 < (l0.length : Int)) = false := decide_eq_false c2
    clear c2
    by_cases c11 : (x3_1.length : Int) = 0
    ·rw [if_pos c11] at H
     have c11b0 : ((x3_1.length : Int) == 0) = true := beq_iff_eq.mpr c11
     have c11b1 : ((x3_1.length : Int) != 0) = false := bne_eq_false_iff_eq.mpr c11
     clear c11
     obtain rfl := Option.some.inj H
     obtain ⟨Ao12, co12, eo12⟩ := Kd.R_slice HO_3.out
     subst eo12
     go_wp2
     go_ret
     exact ⟨by first | rfl | (simp [errW_none, errW_some] <;> rfl) | (simp [*, errW_none, errW_some] <;> rfl), by repeat (first | (with_reducible first | exact HB.out | apply below_alloc | apply pw_below_drewN | apply below_drew1) | exact HB.out)⟩
    ·rw [if_neg c11] at H
     have c11b0 : ((x3_1.length : Int) == 0) = false := beq_eq_false_iff_ne.mpr c11
     have c11b1 : ((x3_1.length : Int) != 0) = true := bne_iff_ne.mpr c11
     have c11b2 : ¬ (x3_1 = []) := fun h_ => c11 (by rw [h_]; rfl)
     replace H := Option.bind_eq_some_iff.mp H
     obtain ⟨t260, A130, H⟩ := H
     replace H : (some t260) = some r := H
     have A13 := Aside0.mk A130
     clear A130
     obtain rfl := Option.some.inj H
     obtain ⟨Ao14, co14, eo14⟩ := Kd.R_slice HO_3.out
     subst eo14
     go_wp2_with (first | ((with_reducible refine gate_callee (f := 30) rfl ?_); refine goesL_ (some 22) rfl rfl Tryz.func30 (by kernel_rfl) rfl #[.slice Ao14 x3_1.length co14, .string (⟨#[44]⟩ : ByteArray)] rfl (by (try simp only [List.map_toArray, List.map_cons, List.map_nil]); first | done | rfl | (simp only [List.length_drop, List.length_take]; rfl)) ?_; (with_reducible refine (strings_Join.calls _ _ x3_1 (⟨#[44]⟩ : ByteArray) t260 _ ?side1 ?side2 A13.out).mono ?_); (case side1 => repeat (first | exact (Kd.R_reads' HO_3.out).2.2 | (with_reducible refine Kd.C_alloc ?_ _) | (with_reducible refine Kd.C_drewN ?_ _) | (with_reducible refine Kd.C_drew ?_))); (case side2 => exact (Kd.R_reads' HO_3.out).2.1); rintro e w15 ⟨rfl, hb⟩; refine ⟨_, rfl, ?_⟩; have n0_ := Aside0.mk (Kd.R_below (by (with_reducible repeat (first | apply Kd.R_alloc | apply Kd.R_drewN | apply Kd.R_drew)); exact HO_3.out) hb); have n1_ := Aside0.mk (below_step (by repeat (first | (with_reducible first | exact HB.out | apply below_alloc | apply pw_below_drewN | apply below_drew1) | exact HB.out)) hb); clear HO_3; clear HB; have HO_3 := n0_; have HB := n1_; clear n0_ n1_; (try clear hb); (try clear hb2); (try clear hk); (try clear hi)))
     go_ret
     exact ⟨by first | rfl | (simp [errW_none, errW_some] <;> rfl) | (simp [*, errW_none, errW_some] <;> rfl), by repeat (first | (with_reducible first | exact HB.out | apply below_alloc | apply pw_below_drewN | apply below_drew1) | exact HB.out)⟩

end Go.Proofs.YtndgaeldndgioaaGreatDoor.QAll
end

section
/- Walks, written by a program of this session (wip/pp): a Go function comes to what the Lean function beside it tells. -/
namespace Go.Proofs.YtndgaeldndgioaaGreatDoor.QAll
open Go.RowKit Go.Proofs.YtndgaeldndgioaaGreatDoorW.PrintWords Go.Proofs.YtndgaeldndgioaaGreatDoorW.PrintLast Go.Proofs.YtndgaeldndgioaaGreatDoorW.PrintMore
attribute [local go_sem] max2_int min2_int max_two min_two max_three min_three max_four min_four
set_option linter.unusedVariables false
set_option linter.unusedSimpArgs false

def script_bit.f (a0 : Bool) : Option (Int) := if a0 = true then (some 1) else (some 0)
set_option maxHeartbeats 8000000 in
set_option maxRecDepth 100000 in
theorem script_bit.calls (a0 : Bool) (r : Int) (w : World) (h : script_bit.f a0 = some r) :
  Calls Tryz.prog 29 #[.bool a0] w fun e w' => e = .returned (.int .i64 r) ∧ Drawn0 w w' := by
 have H : (if a0 = true then (some 1) else (some 0)) = some r := h
 clear h
 by_cases c2 : a0 = true
 ·subst c2
  have H1 : (some 1) = some r := by rw [if_pos rfl] at H; exact H
  clear H
  have H := H1
  clear H1
  obtain rfl := Option.some.inj H
  go_enter Tryz.func29, Tryz.ntmps29
  go_wp2
  go_ret
  exact ⟨by first | rfl | (simp; done) | (simp [*]; done) | (simp; exact (fun l : List UInt8 => (by cases l <;> rfl : l.isEmpty = !(l != []))) _), by repeat (first | exact Drawn0.refl _ | apply Drawn0.step)⟩
 ·replace c2 := Bool.eq_false_iff.mpr c2
  subst c2
  have H1 : (some 0) = some r := by rw [if_neg (show ¬ (false = true) by decide)] at H; exact H
  clear H
  have H := H1
  clear H1
  obtain rfl := Option.some.inj H
  go_enter Tryz.func29, Tryz.ntmps29
  go_wp2
  go_ret
  exact ⟨by first | rfl | (simp; done) | (simp [*]; done) | (simp; exact (fun l : List UInt8 => (by cases l <;> rfl : l.isEmpty = !(l != []))) _), by repeat (first | exact Drawn0.refl _ | apply Drawn0.step)⟩

end Go.Proofs.YtndgaeldndgioaaGreatDoor.QAll
end

section
/- Walks, written by a program of this session (wip/pp): a Go function comes to what the Lean function beside it tells. -/
namespace Go.Proofs.YtndgaeldndgioaaGreatDoor.QAll
open Go.RowKit Go.Proofs.YtndgaeldndgioaaGreatDoorW.PrintWords Go.Proofs.YtndgaeldndgioaaGreatDoorW.PrintLast Go.Proofs.YtndgaeldndgioaaGreatDoorW.PrintMore
attribute [local go_sem] max2_int min2_int max_two min_two max_three min_three max_four min_four
set_option linter.unusedVariables false
set_option linter.unusedSimpArgs false

def squelchref04_Digits.f (a0 : Int) : Option (ByteArray) := if a0 < 10 then (if 0 ≤ a0 then (if a0 ≤ (wrap64 (a0 + 1)) then (if (wrap64 (a0 + 1)) ≤ 10 then (some ((⟨#[48, 49, 50, 51, 52, 53, 54, 55, 56, 57]⟩ : ByteArray).extract (a0 : Int).toNat ((wrap64 (a0 + 1)) : Int).toNat)) else (none)) else (none)) else (none)) else (if 0 ≤ (wrap64 (Int.tdiv a0 10)) then (if (wrap64 (Int.tdiv a0 10)) ≤ (wrap64 ((wrap64 (Int.tdiv a0 10)) + 1)) then (if (wrap64 ((wrap64 (Int.tdiv a0 10)) + 1)) ≤ 10 then (if 0 ≤ (Int.tmod a0 10) then (if (Int.tmod a0 10) ≤ (wrap64 ((Int.tmod a0 10) + 1)) then (if (wrap64 ((Int.tmod a0 10) + 1)) ≤ 10 then (if ((⟨#[48, 49, 50, 51, 52, 53, 54, 55, 56, 57]⟩ : ByteArray).extract ((wrap64 (Int.tdiv a0 10)) : Int).toNat ((wrap64 ((wrap64 (Int.tdiv a0 10)) + 1)) : Int).toNat).size + ((⟨#[48, 49, 50, 51, 52, 53, 54, 55, 56, 57]⟩ : ByteArray).extract ((Int.tmod a0 10) : Int).toNat ((wrap64 ((Int.tmod a0 10) + 1)) : Int).toNat).size ≤ 9223372036854775807 then (some (((⟨#[48, 49, 50, 51, 52, 53, 54, 55, 56, 57]⟩ : ByteArray).extract ((wrap64 (Int.tdiv a0 10)) : Int).toNat ((wrap64 ((wrap64 (Int.tdiv a0 10)) + 1)) : Int).toNat) ++ ((⟨#[48, 49, 50, 51, 52, 53, 54, 55, 56, 57]⟩ : ByteArray).extract ((Int.tmod a0 10) : Int).toNat ((wrap64 ((Int.tmod a0 10) + 1)) : Int).toNat))) else (none)) else (none)) else (none)) else (none)) else (none)) else (none)) else (none))
set_option maxHeartbeats 8000000 in
set_option maxRecDepth 100000 in
theorem squelchref04_Digits.calls (a0 : Int) (r : ByteArray) (w : World) (h : squelchref04_Digits.f a0 = some r) :
  Calls Tryz.prog 71 #[.int .i64 a0] w fun e w' => e = .returned (.string r) ∧ Drawn0 w w' := by
 have H : (if a0 < 10 then (if 0 ≤ a0 then (if a0 ≤ (wrap64 (a0 + 1)) then (if (wrap64 (a0 + 1)) ≤ 10 then (some ((⟨#[48, 49, 50, 51, 52, 53, 54, 55, 56, 57]⟩ : ByteArray).extract (a0 : Int).toNat ((wrap64 (a0 + 1)) : Int).toNat)) else (none)) else (none)) else (none)) else (if 0 ≤ (wrap64 (Int.tdiv a0 10)) then (if (wrap64 (Int.tdiv a0 10)) ≤ (wrap64 ((wrap64 (Int.tdiv a0 10)) + 1)) then (if (wrap64 ((wrap64 (Int.tdiv a0 10)) + 1)) ≤ 10 then (if 0 ≤ (Int.tmod a0 10) then (if (Int.tmod a0 10) ≤ (wrap64 ((Int.tmod a0 10) + 1)) then (if (wrap64 ((Int.tmod a0 10) + 1)) ≤ 10 then (if ((⟨#[48, 49, 50, 51, 52, 53, 54, 55, 56, 57]⟩ : ByteArray).extract ((wrap64 (Int.tdiv a0 10)) : Int).toNat ((wrap64 ((wrap64 (Int.tdiv a0 10)) + 1)) : Int).toNat).size + ((⟨#[48, 49, 50, 51, 52, 53, 54, 55, 56, 57]⟩ : ByteArray).extract ((Int.tmod a0 10) : Int).toNat ((wrap64 ((Int.tmod a0 10) + 1)) : Int).toNat).size ≤ 9223372036854775807 then (some (((⟨#[48, 49, 50, 51, 52, 53, 54, 55, 56, 57]⟩ : ByteArray).extract ((wrap64 (Int.tdiv a0 10)) : Int).toNat ((wrap64 ((wrap64 (Int.tdiv a0 10)) + 1)) : Int).toNat) ++ ((⟨#[48, 49, 50, 51, 52, 53, 54, 55, 56, 57]⟩ : ByteArray).extract ((Int.tmod a0 10) : Int).toNat ((wrap64 ((Int.tmod a0 10) + 1)) : Int).toNat))) else (none)) else (none)) else (none)) else (none)) else (none)) else (none)) else (none))) = some r := h
 clear h
 by_cases c2 : a0 < 10
 ·rw [if_pos c2] at H
  have c2b0 : decide (a0 < 10) = true := decide_eq_true c2
  clear c2
  by_cases c3 : 0 ≤ a0
  ·rw [if_pos c3] at H
   have c3b0 := eq_true c3
   have c3b1 : decide (0 ≤ a0) = true := decide_eq_true c3
   clear c3
   by_cases c4 : a0 ≤ (wrap64 (a0 + 1))
   ·rw [if_pos c4] at H
    have c4b0 := eq_true c4
    have c4b1 : decide (a0 ≤ (wrap64 (a0 + 1))) = true := decide_eq_true c4
    by_cases c5 : (wrap64 (a0 + 1)) ≤ 10
    ·rw [if_pos c5] at H
     have c5b0 := eq_true c5
     have c5b1 : decide ((wrap64 (a0 + 1)) ≤ 10) = true := decide_eq_true c5
     obtain rfl := Option.some.inj H
     go_enter Tryz.func71, Tryz.ntmps71
     go_wp2
     repeat (go_quiet (fail); try go_wp2)
     go_ret
     exact ⟨by first | rfl | (simp; done) | (simp [*]; done) | (simp; exact (fun l : List UInt8 => (by cases l <;> rfl : l.isEmpty = !(l != []))) _), by repeat (first | exact Drawn0.refl _ | apply Drawn0.step)⟩
    ·rw [if_neg c5] at H
     exact absurd H (by simp)
   ·rw [if_neg c4] at H
    exact absurd H (by simp)
  ·rw [if_neg c3] at H
   exact absurd H (by simp)
 ·rw [if_neg c2] at H
  have c2b0 : decide (a0 < 10) = false := decide_eq_false c2
  clear c2
  obtain ⟨ji6, hji6⟩ : ∃ j_ : Int, (wrap64 (Int.tdiv a0 10)) = j_ := ⟨_, rfl⟩
  replace H : (if 0 ≤ (ji6) then (if (ji6) ≤ (wrap64 ((ji6) + 1)) then (if (wrap64 ((ji6) + 1)) ≤ 10 then (if 0 ≤ (Int.tmod a0 10) then (if (Int.tmod a0 10) ≤ (wrap64 ((Int.tmod a0 10) + 1)) then (if (wrap64 ((Int.tmod a0 10) + 1)) ≤ 10 then (if ((⟨#[48, 49, 50, 51, 52, 53, 54, 55, 56, 57]⟩ : ByteArray).extract ((ji6) : Int).toNat ((wrap64 ((ji6) + 1)) : Int).toNat).size + ((⟨#[48, 49, 50, 51, 52, 53, 54, 55, 56, 57]⟩ : ByteArray).extract ((Int.tmod a0 10) : Int).toNat ((wrap64 ((Int.tmod a0 10) + 1)) : Int).toNat).size ≤ 9223372036854775807 then (some (((⟨#[48, 49, 50, 51, 52, 53, 54, 55, 56, 57]⟩ : ByteArray).extract ((ji6) : Int).toNat ((wrap64 ((ji6) + 1)) : Int).toNat) ++ ((⟨#[48, 49, 50, 51, 52, 53, 54, 55, 56, 57]⟩ : ByteArray).extract ((Int.tmod a0 10) : Int).toNat ((wrap64 ((Int.tmod a0 10) + 1)) : Int).toNat))) else (none)) else (none)) else (none)) else (none)) else (none)) else (none)) else (none)) = some r := by first | (rw [hji6] at H; exact H) | (simp only [hji6] at H ⊢; exact H)
  have hji6w : (IntKind.i64.wrap (Int.tdiv a0 10)) = ji6 := (i64_w _).trans hji6
  by_cases c7 : 0 ≤ (ji6)
  ·rw [if_pos c7] at H
   have c7b0 := eq_true c7
   have c7b1 : decide (0 ≤ (ji6)) = true := decide_eq_true c7
   clear c7
   by_cases c8 : (ji6) ≤ (wrap64 ((ji6) + 1))
   ·rw [if_pos c8] at H
    have c8b0 := eq_true c8
    have c8b1 : decide ((ji6) ≤ (wrap64 ((ji6) + 1))) = true := decide_eq_true c8
    by_cases c9 : (wrap64 ((ji6) + 1)) ≤ 10
    ·rw [if_pos c9] at H
     have c9b0 := eq_true c9
     have c9b1 : decide ((wrap64 ((ji6) + 1)) ≤ 10) = true := decide_eq_true c9
     obtain ⟨ji10, hji10⟩ : ∃ j_ : Int, (Int.tmod a0 10) = j_ := ⟨_, rfl⟩
     replace H : (if 0 ≤ (ji10) then (if (ji10) ≤ (wrap64 ((ji10) + 1)) then (if (wrap64 ((ji10) + 1)) ≤ 10 then (if ((⟨#[48, 49, 50, 51, 52, 53, 54, 55, 56, 57]⟩ : ByteArray).extract ((ji6) : Int).toNat ((wrap64 ((ji6) + 1)) : Int).toNat).size + ((⟨#[48, 49, 50, 51, 52, 53, 54, 55, 56, 57]⟩ : ByteArray).extract ((ji10) : Int).toNat ((wrap64 ((ji10) + 1)) : Int).toNat).size ≤ 9223372036854775807 then (some (((⟨#[48, 49, 50, 51, 52, 53, 54, 55, 56, 57]⟩ : ByteArray).extract ((ji6) : Int).toNat ((wrap64 ((ji6) + 1)) : Int).toNat) ++ ((⟨#[48, 49, 50, 51, 52, 53, 54, 55, 56, 57]⟩ : ByteArray).extract ((ji10) : Int).toNat ((wrap64 ((ji10) + 1)) : Int).toNat))) else (none)) else (none)) else (none)) else (none)) = some r := by first | (rw [hji10] at H; exact H) | (simp only [hji10] at H ⊢; exact H)
     by_cases c11 : 0 ≤ (ji10)
     ·rw [if_pos c11] at H
      have c11b0 := eq_true c11
      have c11b1 : decide (0 ≤ (ji10)) = true := decide_eq_true c11
      clear c11
      by_cases c12 : (ji10) ≤ (wrap64 ((ji10) + 1))
      ·rw [if_pos c12] at H
       have c12b0 := eq_true c12
       have c12b1 : decide ((ji10) ≤ (wrap64 ((ji10) + 1))) = true := decide_eq_true c12
       by_cases c13 : (wrap64 ((ji10) + 1)) ≤ 10
       ·rw [if_pos c13] at H
        have c13b0 := eq_true c13
        have c13b1 : decide ((wrap64 ((ji10) + 1)) ≤ 10) = true := decide_eq_true c13
        by_cases c14 : ((⟨#[48, 49, 50, 51, 52, 53, 54, 55, 56, 57]⟩ : ByteArray).extract ((ji6) : Int).toNat ((wrap64 ((ji6) + 1)) : Int).toNat).size + ((⟨#[48, 49, 50, 51, 52, 53, 54, 55, 56, 57]⟩ : ByteArray).extract ((ji10) : Int).toNat ((wrap64 ((ji10) + 1)) : Int).toNat).size ≤ 9223372036854775807
        ·rw [if_pos c14] at H
         have c14b0 := eq_true c14
         have c14b1 : decide (((⟨#[48, 49, 50, 51, 52, 53, 54, 55, 56, 57]⟩ : ByteArray).extract ((ji6) : Int).toNat ((wrap64 ((ji6) + 1)) : Int).toNat).size + ((⟨#[48, 49, 50, 51, 52, 53, 54, 55, 56, 57]⟩ : ByteArray).extract ((ji10) : Int).toNat ((wrap64 ((ji10) + 1)) : Int).toNat).size ≤ 9223372036854775807) = true := decide_eq_true c14
         try have c14b2 : (9223372036854775807 < ((⟨#[48, 49, 50, 51, 52, 53, 54, 55, 56, 57]⟩ : ByteArray).extract ((ji6) : Int).toNat ((wrap64 ((ji6) + 1)) : Int).toNat).size + ((⟨#[48, 49, 50, 51, 52, 53, 54, 55, 56, 57]⟩ : ByteArray).extract ((ji10) : Int).toNat ((wrap64 ((ji10) + 1)) : Int).toNat).size) = False := eq_false (Nat.not_lt.2 c14)
         obtain rfl := Option.some.inj H
         go_enter Tryz.func71, Tryz.ntmps71
         go_wp2
         repeat (go_quiet (fail); try go_wp2)
         go_ret
         exact ⟨by first | rfl | (simp; done) | (simp only [← hji6, ← hji10] <;> (first | rfl | simp)) | (simp [*]; done), by repeat (first | exact Drawn0.refl _ | apply Drawn0.step)⟩
        ·rw [if_neg c14] at H
         exact absurd H (by simp)
       ·rw [if_neg c13] at H
        exact absurd H (by simp)
      ·rw [if_neg c12] at H
       exact absurd H (by simp)
     ·rw [if_neg c11] at H
      exact absurd H (by simp)
    ·rw [if_neg c9] at H
     exact absurd H (by simp)
   ·rw [if_neg c8] at H
    exact absurd H (by simp)
  ·rw [if_neg c7] at H
   exact absurd H (by simp)

end Go.Proofs.YtndgaeldndgioaaGreatDoor.QAll
end

section
/- Walks, written by a program of this session (wip/pp): a Go function comes to what the Lean function beside it tells. -/
namespace Go.Proofs.YtndgaeldndgioaaGreatDoor.QAll
open Go.RowKit Go.Proofs.YtndgaeldndgioaaGreatDoorW.PrintWords Go.Proofs.YtndgaeldndgioaaGreatDoorW.PrintLast Go.Proofs.YtndgaeldndgioaaGreatDoorW.PrintMore
attribute [local go_sem] max2_int min2_int max_two min_two max_three min_three max_four min_four
set_option linter.unusedVariables false
set_option linter.unusedSimpArgs false

def squelchref04_Text.f (a0_0 : ByteArray) (a0_1 : Int) : Option (ByteArray) := if a0_1 = 0 then (some a0_0) else (if a0_0.size + 1 ≤ 9223372036854775807 then ((squelchref04_Digits.f a0_1).bind fun t265 => (if (a0_0 ++ (⟨#[45]⟩ : ByteArray)).size + t265.size ≤ 9223372036854775807 then (some ((a0_0 ++ (⟨#[45]⟩ : ByteArray)) ++ t265)) else (none))) else (none))
set_option maxHeartbeats 8000000 in
set_option maxRecDepth 100000 in
theorem squelchref04_Text.calls (a0_0 : ByteArray) (a0_1 : Int) (r : ByteArray) (w : World) (h : squelchref04_Text.f a0_0 a0_1 = some r) :
  Calls Tryz.prog 46 #[.agg #[.string a0_0, .int .i64 a0_1]] w fun e w' => e = .returned (.string r) ∧ Below w.heap.size w w' := by
 have hu37 := Tryz.underlying37
 have HB := Aside0.mk (Below.refl w.heap.size w)
 have H : (if a0_1 = 0 then (some a0_0) else (if a0_0.size + 1 ≤ 9223372036854775807 then ((squelchref04_Digits.f a0_1).bind fun t265 => (if (a0_0 ++ (⟨#[45]⟩ : ByteArray)).size + t265.size ≤ 9223372036854775807 then (some ((a0_0 ++ (⟨#[45]⟩ : ByteArray)) ++ t265)) else (none))) else (none))) = some r := h
 clear h
 by_cases c2 : a0_1 = 0
 ·rw [if_pos c2] at H
  have c2b0 : (a0_1 == 0) = true := beq_iff_eq.mpr c2
  have c2b1 : (a0_1 != 0) = false := bne_eq_false_iff_eq.mpr c2
  clear c2
  obtain rfl := Option.some.inj H
  go_enter Tryz.func46, Tryz.ntmps46
  go_wp2_with (first | ((with_reducible refine gate_dst (N := 1) rfl ?_); refine box_event ?hg (N := 1) ?hd (cs := #[.string a0_0, .int .i64 a0_1]) (t := 37) ?hr ?_; (case hd => rfl); (case hg => rfl); (case hr => first | (go_simp; done) | (go_simp; rfl)); intro gb264 hg w3 hbox hb; have n0_ := Aside0.mk (below_step (by repeat (first | (with_reducible first | exact HB.out | apply below_alloc | apply pw_below_drewN | apply below_drew1) | exact HB.out)) hb); have n1_ := Aside0.mk (hbox); have n2_ := Aside0.mk ((by rw [hg]; exact (below_size (by repeat (first | (with_reducible first | exact HB.out | apply below_alloc | apply pw_below_drewN | apply below_drew1) | exact HB.out))) : w.heap.size ≤ gb264)); have n3_ := Aside0.mk ((by rw [hg]; exact (below_size (by repeat (first | (with_reducible first | exact HB.out | apply below_alloc | apply pw_below_drewN | apply below_drew1) | exact HB.out))) : w.heap.size ≤ gb264)); clear HB; have HB := n0_; have BK264 := n1_; have GW264 := n2_; have GE264 := n3_; clear n0_ n1_ n2_ n3_; clear hb hbox hg; have hcz4_0 : w3.cell? ⟨gb264, 0, none⟩ = some (.string a0_0) := (blk_cell BK264.out 0).trans rfl; have hcz4_1 : w3.cell? ⟨gb264, 1, none⟩ = some (.int .i64 a0_1) := (blk_cell BK264.out 1).trans rfl; have hfz4_0 := blk_frozen BK264.out 0; have hfz4_1 := blk_frozen BK264.out 1))
  repeat (go_quiet (first | ((with_reducible refine gate_dst (N := 1) rfl ?_); refine box_event ?hg (N := 1) ?hd (cs := #[.string a0_0, .int .i64 a0_1]) (t := 37) ?hr ?_; (case hd => rfl); (case hg => rfl); (case hr => first | (go_simp; done) | (go_simp; rfl)); intro gb264 hg w3 hbox hb; have n0_ := Aside0.mk (below_step (by repeat (first | (with_reducible first | exact HB.out | apply below_alloc | apply pw_below_drewN | apply below_drew1) | exact HB.out)) hb); have n1_ := Aside0.mk (hbox); have n2_ := Aside0.mk ((by rw [hg]; exact (below_size (by repeat (first | (with_reducible first | exact HB.out | apply below_alloc | apply pw_below_drewN | apply below_drew1) | exact HB.out))) : w.heap.size ≤ gb264)); have n3_ := Aside0.mk ((by rw [hg]; exact (below_size (by repeat (first | (with_reducible first | exact HB.out | apply below_alloc | apply pw_below_drewN | apply below_drew1) | exact HB.out))) : w.heap.size ≤ gb264)); clear HB; have HB := n0_; have BK264 := n1_; have GW264 := n2_; have GE264 := n3_; clear n0_ n1_ n2_ n3_; clear hb hbox hg; have hcz4_0 : w3.cell? ⟨gb264, 0, none⟩ = some (.string a0_0) := (blk_cell BK264.out 0).trans rfl; have hcz4_1 : w3.cell? ⟨gb264, 1, none⟩ = some (.int .i64 a0_1) := (blk_cell BK264.out 1).trans rfl; have hfz4_0 := blk_frozen BK264.out 0; have hfz4_1 := blk_frozen BK264.out 1)); try go_wp2_with (first | ((with_reducible refine gate_dst (N := 1) rfl ?_); refine box_event ?hg (N := 1) ?hd (cs := #[.string a0_0, .int .i64 a0_1]) (t := 37) ?hr ?_; (case hd => rfl); (case hg => rfl); (case hr => first | (go_simp; done) | (go_simp; rfl)); intro gb264 hg w3 hbox hb; have n0_ := Aside0.mk (below_step (by repeat (first | (with_reducible first | exact HB.out | apply below_alloc | apply pw_below_drewN | apply below_drew1) | exact HB.out)) hb); have n1_ := Aside0.mk (hbox); have n2_ := Aside0.mk ((by rw [hg]; exact (below_size (by repeat (first | (with_reducible first | exact HB.out | apply below_alloc | apply pw_below_drewN | apply below_drew1) | exact HB.out))) : w.heap.size ≤ gb264)); have n3_ := Aside0.mk ((by rw [hg]; exact (below_size (by repeat (first | (with_reducible first | exact HB.out | apply below_alloc | apply pw_below_drewN | apply below_drew1) | exact HB.out))) : w.heap.size ≤ gb264)); clear HB; have HB := n0_; have BK264 := n1_; have GW264 := n2_; have GE264 := n3_; clear n0_ n1_ n2_ n3_; clear hb hbox hg; have hcz4_0 : w3.cell? ⟨gb264, 0, none⟩ = some (.string a0_0) := (blk_cell BK264.out 0).trans rfl; have hcz4_1 : w3.cell? ⟨gb264, 1, none⟩ = some (.int .i64 a0_1) := (blk_cell BK264.out 1).trans rfl; have hfz4_0 := blk_frozen BK264.out 0; have hfz4_1 := blk_frozen BK264.out 1)))
  go_ret
  exact ⟨by first | rfl | (simp [errW_none, errW_some] <;> rfl) | (simp [*, errW_none, errW_some] <;> rfl), by repeat (first | (with_reducible first | exact HB.out | apply below_alloc | apply pw_below_drewN | apply below_drew1 | refine below_set ?_ GE264.out) | exact HB.out)⟩
 ·rw [if_neg c2] at H
  have c2b0 : (a0_1 == 0) = false := beq_eq_false_iff_ne.mpr c2
  have c2b1 : (a0_1 != 0) = true := bne_iff_ne.mpr c2
  by_cases c5 : a0_0.size + 1 ≤ 9223372036854775807
  ·rw [if_pos c5] at H
   have c5b0 := eq_true c5
   have c5b1 : decide (a0_0.size + 1 ≤ 9223372036854775807) = true := decide_eq_true c5
   try have c5b2 : (9223372036854775807 < a0_0.size + 1) = False := eq_false (Nat.not_lt.2 c5)
   replace H := Option.bind_eq_some_iff.mp H
   obtain ⟨t265, A60, H⟩ := H
   replace H : (if (a0_0 ++ (⟨#[45]⟩ : ByteArray)).size + t265.size ≤ 9223372036854775807 then (some ((a0_0 ++ (⟨#[45]⟩ : ByteArray)) ++ t265)) else (none)) = some r := H
   have A6 := Aside0.mk A60
   clear A60
   by_cases c7 : (a0_0 ++ (⟨#[45]⟩ : ByteArray)).size + t265.size ≤ 9223372036854775807
   ·rw [if_pos c7] at H
    have c7b0 := eq_true c7
    have c7b1 : decide ((a0_0 ++ (⟨#[45]⟩ : ByteArray)).size + t265.size ≤ 9223372036854775807) = true := decide_eq_true c7
    try have c7b2 : (9223372036854775807 < (a0_0 ++ (⟨#[45]⟩ : ByteArray)).size + t265.size) = False := eq_false (Nat.not_lt.2 c7)
    (try (have c7b5 := c7b2; simp only [ByteArray.size_append, show (⟨#[45]⟩ : ByteArray).size = 1 from rfl] at c7b5))
    obtain rfl := Option.some.inj H
    go_enter Tryz.func46, Tryz.ntmps46
    go_wp2_with (first | ((with_reducible refine gate_dst (N := 1) rfl ?_); refine box_event ?hg (N := 1) ?hd (cs := #[.string a0_0, .int .i64 a0_1]) (t := 37) ?hr ?_; (case hd => rfl); (case hg => rfl); (case hr => first | (go_simp; done) | (go_simp; rfl)); intro gb264 hg w8 hbox hb; have n0_ := Aside0.mk (below_step (by repeat (first | (with_reducible first | exact HB.out | apply below_alloc | apply pw_below_drewN | apply below_drew1) | exact HB.out)) hb); have n1_ := Aside0.mk (hbox); have n2_ := Aside0.mk ((by rw [hg]; exact (below_size (by repeat (first | (with_reducible first | exact HB.out | apply below_alloc | apply pw_below_drewN | apply below_drew1) | exact HB.out))) : w.heap.size ≤ gb264)); have n3_ := Aside0.mk ((by rw [hg]; exact (below_size (by repeat (first | (with_reducible first | exact HB.out | apply below_alloc | apply pw_below_drewN | apply below_drew1) | exact HB.out))) : w.heap.size ≤ gb264)); clear HB; have HB := n0_; have BK264 := n1_; have GW264 := n2_; have GE264 := n3_; clear n0_ n1_ n2_ n3_; clear hb hbox hg; have hcz9_0 : w8.cell? ⟨gb264, 0, none⟩ = some (.string a0_0) := (blk_cell BK264.out 0).trans rfl; have hcz9_1 : w8.cell? ⟨gb264, 1, none⟩ = some (.int .i64 a0_1) := (blk_cell BK264.out 1).trans rfl; have hfz9_0 := blk_frozen BK264.out 0; have hfz9_1 := blk_frozen BK264.out 1) | (go_at_call 71; (with_reducible refine (squelchref04_Digits.calls a0_1 t265 _ A6.out).mono ?_); rintro e w' ⟨rfl, ⟨nd, rfl⟩⟩; (try first | exact ⟨rfl, _, World.drewN_drewN _ _ _⟩ | exact ⟨rfl, _, Eq.trans (World.drewN_drewN _ _ _) (congrArg (World.drewN _) (Nat.add_assoc _ _ _))⟩)))
    repeat (go_quiet (first | ((with_reducible refine gate_dst (N := 1) rfl ?_); refine box_event ?hg (N := 1) ?hd (cs := #[.string a0_0, .int .i64 a0_1]) (t := 37) ?hr ?_; (case hd => rfl); (case hg => rfl); (case hr => first | (go_simp; done) | (go_simp; rfl)); intro gb264 hg w8 hbox hb; have n0_ := Aside0.mk (below_step (by repeat (first | (with_reducible first | exact HB.out | apply below_alloc | apply pw_below_drewN | apply below_drew1) | exact HB.out)) hb); have n1_ := Aside0.mk (hbox); have n2_ := Aside0.mk ((by rw [hg]; exact (below_size (by repeat (first | (with_reducible first | exact HB.out | apply below_alloc | apply pw_below_drewN | apply below_drew1) | exact HB.out))) : w.heap.size ≤ gb264)); have n3_ := Aside0.mk ((by rw [hg]; exact (below_size (by repeat (first | (with_reducible first | exact HB.out | apply below_alloc | apply pw_below_drewN | apply below_drew1) | exact HB.out))) : w.heap.size ≤ gb264)); clear HB; have HB := n0_; have BK264 := n1_; have GW264 := n2_; have GE264 := n3_; clear n0_ n1_ n2_ n3_; clear hb hbox hg; have hcz9_0 : w8.cell? ⟨gb264, 0, none⟩ = some (.string a0_0) := (blk_cell BK264.out 0).trans rfl; have hcz9_1 : w8.cell? ⟨gb264, 1, none⟩ = some (.int .i64 a0_1) := (blk_cell BK264.out 1).trans rfl; have hfz9_0 := blk_frozen BK264.out 0; have hfz9_1 := blk_frozen BK264.out 1) | (go_at_call 71; (with_reducible refine (squelchref04_Digits.calls a0_1 t265 _ A6.out).mono ?_); rintro e w' ⟨rfl, ⟨nd, rfl⟩⟩; (try first | exact ⟨rfl, _, World.drewN_drewN _ _ _⟩ | exact ⟨rfl, _, Eq.trans (World.drewN_drewN _ _ _) (congrArg (World.drewN _) (Nat.add_assoc _ _ _))⟩))); try go_wp2_with (first | ((with_reducible refine gate_dst (N := 1) rfl ?_); refine box_event ?hg (N := 1) ?hd (cs := #[.string a0_0, .int .i64 a0_1]) (t := 37) ?hr ?_; (case hd => rfl); (case hg => rfl); (case hr => first | (go_simp; done) | (go_simp; rfl)); intro gb264 hg w8 hbox hb; have n0_ := Aside0.mk (below_step (by repeat (first | (with_reducible first | exact HB.out | apply below_alloc | apply pw_below_drewN | apply below_drew1) | exact HB.out)) hb); have n1_ := Aside0.mk (hbox); have n2_ := Aside0.mk ((by rw [hg]; exact (below_size (by repeat (first | (with_reducible first | exact HB.out | apply below_alloc | apply pw_below_drewN | apply below_drew1) | exact HB.out))) : w.heap.size ≤ gb264)); have n3_ := Aside0.mk ((by rw [hg]; exact (below_size (by repeat (first | (with_reducible first | exact HB.out | apply below_alloc | apply pw_below_drewN | apply below_drew1) | exact HB.out))) : w.heap.size ≤ gb264)); clear HB; have HB := n0_; have BK264 := n1_; have GW264 := n2_; have GE264 := n3_; clear n0_ n1_ n2_ n3_; clear hb hbox hg; have hcz9_0 : w8.cell? ⟨gb264, 0, none⟩ = some (.string a0_0) := (blk_cell BK264.out 0).trans rfl; have hcz9_1 : w8.cell? ⟨gb264, 1, none⟩ = some (.int .i64 a0_1) := (blk_cell BK264.out 1).trans rfl; have hfz9_0 := blk_frozen BK264.out 0; have hfz9_1 := blk_frozen BK264.out 1) | (go_at_call 71; (with_reducible refine (squelchref04_Digits.calls a0_1 t265 _ A6.out).mono ?_); rintro e w' ⟨rfl, ⟨nd, rfl⟩⟩; (try first | exact ⟨rfl, _, World.drewN_drewN _ _ _⟩ | exact ⟨rfl, _, Eq.trans (World.drewN_drewN _ _ _) (congrArg (World.drewN _) (Nat.add_assoc _ _ _))⟩))))
    go_ret
    exact ⟨by first | rfl | (simp [errW_none, errW_some] <;> rfl) | (simp [*, errW_none, errW_some] <;> rfl), by repeat (first | (with_reducible first | exact HB.out | apply below_alloc | apply pw_below_drewN | apply below_drew1 | refine below_set ?_ GE264.out) | exact HB.out)⟩
   ·rw [if_neg c7] at H
    exact absurd H (by simp)
  ·rw [if_neg c5] at H
   exact absurd H (by simp)

end Go.Proofs.YtndgaeldndgioaaGreatDoor.QAll
end

section
/- From a row's listed variables, and the world's shape, to what the walks ask of the package's variables; and the wrap of a row that hands on both. -/
set_option linter.unusedVariables false
namespace Go.Proofs.YtndgaeldndgioaaGreatDoor.QAll
open Go.RowKit Go.Lib

theorem lz1 : Tryz.prog.globalNamed "strconv.ErrSyntax" = some 2 := by kernel_rfl
theorem lz2 : Tryz.prog.globalNamed "strconv.ErrRange" = some 3 := by kernel_rfl
theorem lz3 : Tryz.prog.globalNamed "internal/strconv.uint64pow10" = some 0 := by kernel_rfl
theorem lzt1 : (Tryz.prog.globals[2]?).map (·.type) = some 134 := by kernel_rfl
theorem lzt2 : (Tryz.prog.globals[3]?).map (·.type) = some 134 := by kernel_rfl
theorem lzt3 : (Tryz.prog.globals[0]?).map (·.type) = some 217 := by kernel_rfl
theorem lzu109 : Tryz.prog.underlying 134 = some (.interface #[("Error", 137)]) := by kernel_rfl
theorem tab_of_reads {W : World} {name : String} {k : IntKind} {zs : List Int} {g : Nat} {t e : TypeId} {n : Nat}
    (hg : Tryz.prog.globalNamed name = some g) (hty : (Tryz.prog.globals[g]?).map (·.type) = some t) (ht : Tryz.prog.underlying t = some (.array n e)) (he : Tryz.prog.underlying e = some (.int k)) (hce : Tryz.prog.cellsOf e = 1) (hct : Tryz.prog.cellsOf t = n)
    (h : VarReads Tryz.prog W name (tabData k zs)) : TabIs Tryz.prog W name k zs := by
  obtain ⟨g', t', cs, fuel, p, hg', ht', hvar, hd⟩ := h
  obtain rfl := Option.some.inj (hg.symm.trans hg')
  obtain rfl := Option.some.inj (hty.symm.trans ht')
  unfold TabIs
  rw [hvar, ← cells_of_tab ht he hce hct hd]
theorem err_of_reads {W : World} {name : String} {g : Nat} {nm : String} {d : DataW Unit}
    (hg : Tryz.prog.globalNamed name = some g) (hty : (Tryz.prog.globals[g]?).map (·.type) = some 134)
    (h : VarReads Tryz.prog W name (.iface nm d)) : ∃ ev, W.cell? ⟨g, 0, none⟩ = some ev ∧ (ev = .nilIface ∨ ∃ te pe, ev = .iface te pe) := by
  obtain ⟨g', t', cs, fuel, p, hg', ht', hvar, hd⟩ := h
  obtain rfl := Option.some.inj (hg.symm.trans hg')
  obtain rfl := Option.some.inj (hty.symm.trans ht')
  obtain ⟨fuel', u, v, hcs, _, _⟩ := iface_of_trod lzu109 hd
  refine ⟨.iface u v, ?_, Or.inr ⟨u, v, rfl⟩⟩
  have e : cs = #[.iface u v] := by apply Array.ext'; simpa using hcs
  subst e
  simpa using World.var?_cell hg hvar 0
theorem maxLen_shaped {W : World} (h : W.ShapedOpen Tryz.prog) : ∃ m, W.cell? ⟨1, 0, none⟩ = some (.int .i64 m) :=
  cell_of_shapedOpen_int (t := 3) (zero := #[.int .i64 0]) h (of_decide_eq_true (by kernel_rfl)) (by kernel_rfl) rfl (by kernel_rfl) (by kernel_rfl) Tryz.underlying3
theorem env_of_laid {W : World} {l : List (String × DataW Unit)} (hsh : W.ShapedOpen Tryz.prog) (hL : laidMet Tryz.prog l W)
    (h1 : ("internal/strconv.uint64pow10", Rows.laid_internal_strconv_uint64pow10) ∈ l) (h2 : ("strconv.ErrRange", Rows.laid_strconv_ErrRange) ∈ l) (h3 : ("strconv.ErrSyntax", Rows.laid_strconv_ErrSyntax) ∈ l) : EnvW W := by
  refine ⟨maxLen_shaped hsh, err_of_reads lz1 lzt1 (laidMet.reads hL h3), err_of_reads lz2 lzt2 (laidMet.reads hL h2), ?_⟩
  exact tab_of_reads (t := 217) (zs := Lib.pow10Tab) lz3 lzt3 Tryz.underlying217 Tryz.underlying196 (by kernel_rfl) (by kernel_rfl) (laidMet.reads hL h1)

/-- The wrap of a row that lists variables, with the reach, the listed variables and the world's shape handed on. -/
theorem returns_laid_shaped {H : Type} {enc : TypeId × Value → H} {a : Assume} {C : Checked} {os : Os} {f : FuncId} {fn : Func} {s : ChangeSpec} {conds : List PathCond} {apart fresh handsOn again : Bool} {l : List (String × DataW Unit)}
    (own : ownKnob C.prog.godebug = none) (started : os.Started) (noInit : C.prog.inits.idxOf? f = none) (hfn : C.prog.funcs[f]? = some fn)
    (witness : ∃ (w : World) (tape : Tape) (i : Input), w.os = os ∧ (w.forCall tape i).Shaped C.prog ∧ i.vars = [] ∧ Input.okWide C.prog (w.forCall tape i) .any w.heap.size f i ∧
      ((s.pre enc C.prog fn conds apart (w.forCall tape i).memory i.args ∧ laidMetH C.prog l (w.forCall tape i).memory) ∧ sizedMet enc C.prog fn (OpenSpec.ofChange s) apart (w.forCall tape i).memory i.args) ∧ a.holds C.prog (lone (Frame.enter C.prog f i.args .normal) [] (w.forCall tape i)))
    (contract : ∀ (W : World) (base : Nat) (args : Array Value) (ds gs : List (DataW H)) (before : List MemPlace),
      (∀ (j : Nat) t v, fn.params[j]? = some t → args[j]? = some v → Value.okWide C.prog W .any base t v) →
      DataW.Whole enc C.prog fn.params.toList s.vars apart W args.toList ds gs before →
      conds.all (PathCond.test C.prog ⟨fn.params.toList, ds, s.plain.varTypes C.prog, gs⟩) = true →
      (DataW.weightsEach C.prog (fn.params.toList ++ s.plain.varTypes C.prog) (ds ++ gs)).all (· ≤ reachBytes) = true → laidMetH C.prog l W → W.ShapedOpen C.prog →
      Calls C.prog f args W fun e W' => ∃ v, e = .returned v ∧ s.post enc C.prog fn apart fresh handsOn again W args v W') :
    ReturnsInHanded a C os f .any (fun w args => (s.pre enc C.prog fn conds apart w args ∧ laidMetH C.prog l w) ∧ sizedMet enc C.prog fn (OpenSpec.ofChange s) apart w args) (s.post enc C.prog fn apart fresh handsOn again) := by
  refine returnsInHanded_of_calls own started noInit witness ?_
  intro w tape i _ hsh _ hok hpre hholds
  obtain ⟨_, _, _, fn', hfn', _, _, _, _, hval⟩ := hok
  have e : fn' = fn := Option.some.inj (hfn'.symm.trans hfn)
  subst e
  obtain ⟨⟨⟨ds, gs, before, hw, hc⟩, hx⟩, hz⟩ := hpre
  have hw' := DataW.Whole.of_heap (w' := w.forCall tape i) (by rfl) hw
  refine (contract (w.forCall tape i) w.heap.size i.args ds gs before hval hw' hc (hz.weights hw) (laidMetH.of_heap (by rfl) hx) hsh).mono fun e W' ⟨v, he, hp⟩ => ?_
  subst he
  exact ChangeSpec.post_blind hp
end Go.Proofs.YtndgaeldndgioaaGreatDoor.QAll
end

section
/- A slice that came in, laid open: its elements as a list, read as the walks read them. -/
set_option linter.unusedVariables false
namespace Go.Proofs.YtndgaeldndgioaaGreatDoor.QAll
open Go.ChangeShapes Go.WideShapes Go.Deep Go.Proofs.YtndgaeldndgioaaGreatDoorW.PrintWords
theorem list_of {α : Type} {Pr : Nat → α → Prop} : ∀ n : Nat, (∀ i, i < n → ∃ a, Pr i a) → ∃ l : List α, l.length = n ∧ ∀ i a, l[i]? = some a → Pr i a
  | 0, _ => ⟨[], rfl, fun i a h => by simp at h⟩
  | n + 1, h => by
    obtain ⟨l, hl, hp⟩ := list_of n (fun i hi => h i (by omega))
    obtain ⟨a, ha⟩ := h n (by omega)
    refine ⟨l ++ [a], by simp [hl], fun i b hb => ?_⟩
    by_cases hi : i < n
    · rw [List.getElem?_append_left (by omega)] at hb
      exact hp i b hb
    · by_cases he : i = n
      · subst he
        rw [← hl] at hb
        simp at hb
        subst hb
        exact ha
      · rw [List.getElem?_eq_none (by simp; omega)] at hb
        cases hb
theorem rows_of_trod {α H : Type} {enc : TypeId × Value → H} {P : Program} {w : World} {t e : TypeId} {fuel : Nat} {cs : List Value} {x : DataW H × List MemPlace} (d : Kd α) (ht : P.underlying t = some (.slice e)) (hC : P.cellsOf e = d.sz) (F : α → Prop)
    (hel : ∀ (n : Nat) (cs' : List Value) (y : DataW H × List MemPlace), DataW.trod enc P w 0 (fun _ => true) true n e cs' = some y → ∃ a, d.K w a cs' ∧ cs'.length = d.sz ∧ F a)
    (h : DataW.trod enc P w 0 (fun _ => true) true fuel t cs = some x) : ∃ (A : Option Addr) (c : Nat) (l : List α), cs = [.slice A l.length c] ∧ d.C w A l.length l ∧ l.length ≤ c ∧ ∀ a ∈ l, F a := by
  rcases open_slice ht h with ⟨rfl, _⟩ | ⟨a, len, cap, m, n, D, Pl, hcs, hb, hl, hm, hmm, hx, hi⟩
  · exact ⟨none, 0, [], rfl, Kd.C_nil d w, Nat.le_refl _, fun a h => by cases h⟩
  · have hml : len ≤ m := by rw [hmm]; simpa using hl
    obtain ⟨l, hll, hp⟩ := list_of (Pr := fun i b => F b ∧ ∃ c, c.length = d.sz ∧ d.K w b c ∧ ∀ j u, c[j]? = some u → w.cell? (a.add (i * d.sz + j)) = some u) len (fun i hil => by
      obtain ⟨cs', hc, ht'⟩ := hi i (by omega)
      obtain ⟨b, hK, hlen, hF⟩ := hel n cs' _ ht'
      obtain ⟨_, hcl, hat⟩ := World.cells?_some hc
      refine ⟨b, hF, cs', hlen, hK, fun j u hu => ?_⟩
      have hj : j < cs'.length := (List.getElem?_eq_some_iff.1 hu).1
      have := hat j (by omega)
      rw [hC] at this
      rw [← Go.Deep.add_add, this, hu])
    refine ⟨some a, cap, l, by rw [hcs, hll], ⟨rfl, ?_, fun _ => ⟨a, rfl, fun j p hjp => (hp j p hjp).2⟩⟩, by omega, fun b hb' => ?_⟩
    · have : maxLen = 9223372036854775807 := rfl
      omega
    · obtain ⟨i, hi', rfl⟩ := List.getElem_of_mem hb'
      exact (hp i _ (List.getElem?_eq_getElem hi')).1
end Go.Proofs.YtndgaeldndgioaaGreatDoor.QAll
end
