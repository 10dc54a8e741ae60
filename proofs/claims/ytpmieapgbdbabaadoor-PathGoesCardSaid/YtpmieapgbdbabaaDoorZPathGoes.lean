/- The row of the law PathGoes, out of its walks and its plain law. -/
import Derived.Test.YtpmieapgbdbabaaDoorMPathGoes5
import Derived.Test.YtpmieapgbdbabaaDoorMPathGoes2
import Derived.Test.YtpmieapgbdbabaaDoorRows
import Derived.Test.YtpmieapgbdbabaaDoorTie
import Derived.Test.YtpmieapgbdbabaaDoorCards
import Derived.WalkKit
import Derived.ProofKit
import Derived.OpenShut
import Derived.ShutString
import Derived.ChangeOld
import Derived.Below
import Derived.SizedLaws
import Derived.Lib.SmallJoins
import Derived.Deep.Slices
import Derived.Deep.Fields
import Derived.ChangeSame
section
/- The plain law of PathGoes: which digipeater is next, the path when it has sent, the way back; over plain strings and lists. -/
set_option linter.unusedVariables false
set_option linter.unusedSimpArgs false
namespace Go.Proofs.YtpmieapgbdbabaaDoor.Pure
open Go.RowKit Go.Proofs.YtpmieapgbdbabaaDoor.QAll Go.Proofs.YtpmieapgbdbabaaDoorW.PrintWords Go.Proofs.YtpmieapgbdbabaaDoorW.PrintLast

theorem rn_map : ∀ (i : Nat) (l : List S93), (nextFrom i l = -1 ∧ rnextFrom (i + 2) (l.map mk37) = -1) ∨ (∃ j : Nat, j < l.length ∧ nextFrom i l = ((i + j : Nat) : Int) ∧ rnextFrom (i + 2) (l.map mk37) = ((i + j + 2 : Nat) : Int))
  | i, [] => .inl ⟨rfl, rfl⟩
  | i, d :: r => by
    rw [List.map_cons]
    unfold nextFrom rnextFrom
    by_cases h : d.f1 = true
    · rw [if_pos h, if_pos (show (mk37 d).f1 = true from h)]
      rcases rn_map (i + 1) r with ⟨h1, h2⟩ | ⟨j, h0, h1, h2⟩
      · exact .inl ⟨h1, by rw [show i + 2 + 1 = i + 1 + 2 by omega]; exact h2⟩
      · exact .inr ⟨j + 1, by simp; omega, by rw [h1]; omega, by rw [show i + 2 + 1 = i + 1 + 2 by omega, h2]; omega⟩
    · rw [if_neg h, if_neg (show ¬(mk37 d).f1 = true from h)]
      exact .inr ⟨0, by simp, by omega, by omega⟩
/-- A path as the document has it. -/
def plL (a : ByteArray) (n : Int) (b : ByteArray) (m : Int) (x y : Bool) (D : List S93) : List S37 := ⟨⟨a, n⟩, x⟩ :: ⟨⟨b, m⟩, y⟩ :: D.map mk37
theorem plL_len (a : ByteArray) (n : Int) (b : ByteArray) (m : Int) (x y : Bool) (D : List S93) : (plL a n b m x y D).length = D.length + 2 := by simp [plL]
theorem plain_f' (a : ByteArray) (n : Int) (b : ByteArray) (m : Int) (x y : Bool) (D : List S93) (hl : D.length ≤ 30) (k : Nat) (hk : 31 ≤ k) : squelchlaw05_Plain.f k a n b m x y D = some (plL a n b m x y D) :=
  plain_f a n b m x y D (by omega) k (by omega)
theorem same_f' (l : List S37) (hl : l.length ≤ 32) (k : Nat) (hk : 33 ≤ k) : squelchref05_Same.f k l l = some true := same_f l (by omega) k (by omega)
theorem next_fp (a : ByteArray) (n : Int) (b : ByteArray) (m : Int) (x y : Bool) (D : List S93) (hl : D.length ≤ 30) (k : Nat) (hk : 33 ≤ k) : squelchref05_Next.f k (plL a n b m x y D) = some (rnextFrom 2 (D.map mk37)) := by
  rw [next_f37 _ (by rw [plL_len]; omega) (by rw [plL_len]; omega) k (by rw [plL_len]; omega)]
  rfl
theorem rd_pl (a : ByteArray) (n : Int) (b : ByteArray) (m : Int) (x y : Bool) (D : List S93) (j : Nat) (hj : j < D.length) : rd_T37 (plL a n b m x y D) ((j + 2 : Nat) : Int) = mk37 (rd_T93 D (j : Int)) := rd37 _ _ D j hj
theorem set_pl (a : ByteArray) (n : Int) (b : ByteArray) (m : Int) (x y : Bool) (D : List S93) (j : Nat) (d : S93) : (plL a n b m x y D).set (j + 2) (mk37 d) = plL a n b m x y (D.set j d) := by
  simp [plL, List.map_set]
/-- What the way back's digipeaters are when k of them have come. -/
def bkL (D : List S93) (k : Nat) : List S37 := (bOf (backK D k)).map mk37
theorem bkL_succ (D : List S93) (k : Nat) : bkL D (k + 1) = bkL D k ++ [⟨(backF D k).2.f0, false⟩] := by
  unfold bkL bOf
  rw [backK_succ]
  simp [mk37, un0]
theorem bkL_len (D : List S93) (k : Nat) : (bkL D k).length = k := by simp [bkL, bOf, backK]
theorem back_at (a : ByteArray) (n : Int) (b : ByteArray) (m : Int) (x y : Bool) (D : List S93) (hl : D.length ≤ 30) (pre : List S37) (hp : pre.length ≤ 10) : ∀ (t k : Nat), t ≤ D.length → t + 1 ≤ k →
    squelchref05_Back.l0 k ((t + 1 : Nat) : Int) (plL a n b m x y D) (pre ++ bkL D (D.length - t)) = some (pre ++ bkL D D.length)
  | t, 0, _, hk => absurd hk (by omega)
  | 0, k + 1, _, _ => by
    rw [squelchref05_Back.l0, if_neg (by omega), Nat.sub_zero]
  | t + 1, k + 1, ht, hk => by
    rw [squelchref05_Back.l0, if_pos (by omega), if_pos (by omega), if_pos (by rw [plL_len]; omega), if_pos (by rw [List.length_append, bkL_len]; omega)]
    have e1 : wrap64 (((t + 1 + 1 : Nat) : Int) - 1) = ((t + 1 : Nat) : Int) := by unfold wrap64; omega
    rw [e1, rd_pl a n b m x y D t (by omega)]
    have h := back_at a n b m x y D hl pre hp t k (by omega) (by omega)
    have e2 : D.length - t = D.length - (t + 1) + 1 := by omega
    rw [e2, bkL_succ, ← List.append_assoc] at h
    have e3 : (backF D (D.length - (t + 1))).2 = rd_T93 D (t : Int) := by
      unfold backF
      rw [show D.length - 1 - (D.length - (t + 1)) = t by omega]
    rw [e3] at h
    exact h
def cmB (x y : Bool) : Bool := if x = true then !y else false
theorem command_f (a : ByteArray) (n : Int) (b : ByteArray) (m : Int) (x y : Bool) (D : List S93) : path_Command.f a n b m x y D = some (cmB x y) := by
  unfold path_Command.f cmB
  cases x <;> rfl
theorem rback_f (a : ByteArray) (n : Int) (b : ByteArray) (m : Int) (x y : Bool) (D : List S93) (hl : D.length ≤ 30) (k : Nat) (hk : 40 ≤ k) :
    squelchref05_Back.f k (plL a n b m x y D) = some (plL b m a n (!cmB x y) (cmB x y) (bOf (backK D D.length))) := by
  have hL : (plL a n b m x y D).length = D.length + 2 := plL_len a n b m x y D
  have r0 : rd_T37 (plL a n b m x y D) 0 = ⟨⟨a, n⟩, x⟩ := rfl
  have r1 : rd_T37 (plL a n b m x y D) 1 = ⟨⟨b, m⟩, y⟩ := rfl
  have hj : ∀ k', 39 ≤ k' → squelchref05_Back.j0 k' (cmB x y) (plL a n b m x y D) = some (plL b m a n (!cmB x y) (cmB x y) (bOf (backK D D.length))) := by
    intro k' hk'
    obtain ⟨k'', rfl⟩ : ∃ k'', k' = k'' + 1 := ⟨k' - 1, by omega⟩
    rw [squelchref05_Back.j0, if_pos (by rw [hL]; omega), if_pos (by rw [hL]; omega), r0, r1]
    have e1 : wrap64 (((plL a n b m x y D).length : Int) - 1) = ((D.length + 1 : Nat) : Int) := by rw [hL]; unfold wrap64; omega
    have h := back_at a n b m x y D hl [⟨⟨b, m⟩, !cmB x y⟩, ⟨⟨a, n⟩, cmB x y⟩] (by simp) D.length k'' (Nat.le_refl _) (by omega)
    rw [Nat.sub_self] at h
    rw [e1]
    exact h
  unfold squelchref05_Back.f
  rw [if_pos (by rw [hL]; omega), r0, r1]
  by_cases hx : x = true
  · rw [if_pos hx, if_pos (by rw [hL]; omega)]
    have h := hj k (by omega)
    unfold cmB at h
    rw [if_pos hx] at h
    rw [h]
    unfold cmB
    rw [if_pos hx]
  · rw [if_neg hx]
    have h := hj k (by omega)
    unfold cmB at h
    rw [if_neg hx] at h
    rw [h]
    unfold cmB
    rw [if_neg hx]
/-- What both say of the next one. -/
theorem goes_main (a : ByteArray) (n : Int) (b : ByteArray) (m : Int) (x y : Bool) (D : List S93) (hl : D.length ≤ 30) (k : Nat) (hk : 100 ≤ k) : squelchlaw05_PathGoes.j0 k false a n b m x y D (plL a n b m x y D) = some true := by
  obtain ⟨k, rfl⟩ : ∃ k', k = k' + 1 := ⟨k - 1, by omega⟩
  have hL : (plL a n b m x y D).length = D.length + 2 := plL_len a n b m x y D
  have hbl : (bOf (backK D D.length)).length = D.length := by simp [bOf, backK]
  have hB : path_Back.f a n b m x y D = some (b, m, a, n, !cmB x y, !(!cmB x y), bOf (backK D D.length)) := by
    unfold path_Back.f
    rw [if_pos (by omega), command_f]
    rfl
  have hw64 : wrap64 = wrap64 := rfl
  rw [squelchlaw05_PathGoes.j0, if_neg (by simp)]
  -- what follows the two answers
  have tail : ∀ (D' : List S93) (s : Bool), D'.length = D.length → 
      path_Sent.f a n b m x y D = some (a, n, b, m, x, y, D', s) → squelchref05_Sent.f k (plL a n b m x y D) = some (plL a n b m x y D', s) →
      ((path_Sent.f a n b m x y D).bind fun bt204 => ((squelchref05_Sent.f k (plL a n b m x y D)).bind fun bt215 => ((path_Back.f a n b m x y D).bind fun bt220 => (if (bt204.2.2.2.2.2.2.2 == bt215.2) = true then ((squelchlaw05_Plain.f k bt204.1 bt204.2.1 bt204.2.2.1 bt204.2.2.2.1 bt204.2.2.2.2.1 bt204.2.2.2.2.2.1 bt204.2.2.2.2.2.2.1).bind fun t230 => ((squelchref05_Same.f k t230 bt215.1).bind fun t233 => (if t233 = true then ((squelchlaw05_Plain.f k bt220.1 bt220.2.1 bt220.2.2.1 bt220.2.2.2.1 bt220.2.2.2.2.1 bt220.2.2.2.2.2.1 bt220.2.2.2.2.2.2).bind fun t234 => ((squelchref05_Back.f k (plL a n b m x y D)).bind fun t237 => ((squelchref05_Same.f k t234 t237).bind fun t240 => (if t240 = true then ((squelchlaw05_Plain.f k a n b m x y D).bind fun t241 => ((squelchref05_Same.f k t241 (plL a n b m x y D)).bind fun t244 => (if t244 = true then ((path_Command.f a n b m x y D).bind fun t245 => (if x = true then (if (t245 == (!y)) = true then ((path_Response.f a n b m x y D).bind fun t246 => (some (t246 == false))) else (some false)) else (if (t245 == false) = true then ((path_Response.f a n b m x y D).bind fun t247 => (some (t247 == y))) else (some false)))) else (some false)))) else (some false))))) else (some false)))) else (some false))))) = some true := by
    intro D' s hD' h1 h2
    rw [h1, h2, hB]
    simp only [Option.bind_some, beq_self_eq_true, if_true, Bool.not_not]
    rw [plain_f' a n b m x y D' (by omega) k (by omega)]
    simp only [Option.bind_some]
    rw [same_f' _ (by rw [plL_len]; omega) k (by omega)]
    simp only [Option.bind_some, if_true]
    rw [plain_f' b m a n _ _ _ (by rw [hbl]; omega) k (by omega), rback_f a n b m x y D hl k (by omega)]
    simp only [Option.bind_some]
    rw [same_f' _ (by rw [plL_len, hbl]; omega) k (by omega)]
    simp only [Option.bind_some, if_true]
    rw [plain_f' a n b m x y D (by omega) k (by omega)]
    simp only [Option.bind_some]
    rw [same_f' _ (by rw [plL_len]; omega) k (by omega)]
    simp only [Option.bind_some, if_true]
    rw [command_f]
    unfold path_Response.f cmB
    cases x <;> cases y <;> rfl
  have hN : path_next.f a n b m x y D = some (nextI D) := by
    unfold path_next.f
    rw [if_pos (by omega)]
  have hC : path_Digi_59.f D = some D := by
    unfold path_Digi_59.f
    rw [if_pos (by omega)]
  rcases rn_map 0 D with ⟨h1, h2⟩ | ⟨j, h0, h1, h2⟩
  · have hn : nextI D = -1 := h1
    refine tail D false rfl ?_ ?_
    · unfold path_Sent.f
      rw [hN, hC, hn]
      rfl
    · unfold squelchref05_Sent.f
      rw [next_fp a n b m x y D hl k (by omega), h2]
      simp only [Option.bind_some, List.nil_append, List.length_nil]
      rw [if_pos (by rw [hL]; omega), if_neg (by omega)]
      rfl
  · have hn : nextI D = (j : Int) := by have := h1; simpa [nextI] using this
    refine tail (D.set j ⟨⟨(rd_T93 D (j : Int)).f0.f0, (rd_T93 D (j : Int)).f0.f1⟩, true⟩) true (by simp) ?_ ?_
    · unfold path_Sent.f
      rw [hN, hC, hn]
      simp only [Option.bind_some]
      rw [if_neg (by omega), if_pos (by omega), if_pos (by omega), Int.toNat_natCast]
    · unfold squelchref05_Sent.f
      rw [next_fp a n b m x y D hl k (by omega), h2, Nat.zero_add]
      simp only [Option.bind_some, List.nil_append, List.length_nil]
      rw [if_pos (by rw [hL]; omega), if_pos (by omega), if_pos (by omega), if_pos (by rw [hL]; omega), rd_pl a n b m x y D j h0, Int.toNat_natCast, decide_eq_true (by omega)]
      have h := set_pl a n b m x y D j ⟨⟨(rd_T93 D (j : Int)).f0.f0, (rd_T93 D (j : Int)).f0.f1⟩, true⟩
      rw [← h]
      rfl
theorem PathGoes : ∀ (a0_0 : ByteArray) (a0_1 : Int) (a0_2 : ByteArray) (a0_3 : Int) (a0_4 a0_5 : Bool) (l0_6 : List S93), a0_0.size ≤ 140737488351232 → (Lit.int .i64 a0_1).wf = true → a0_2.size ≤ 140737488351232 → (Lit.int .i64 a0_3).wf = true →
    (∀ d ∈ l0_6, d.f0.f0.size ≤ maxLen ∧ (Lit.int .i64 d.f0.f1).wf = true) → ∃ k, squelchlaw05_PathGoes.f k a0_0 a0_1 a0_2 a0_3 a0_4 a0_5 l0_6 = some true := by
  intro a n b m x y D _ _ _ _ _
  refine ⟨200, ?_⟩
  unfold squelchlaw05_PathGoes.f squelchlaw05_great.f
  rw [show squelchlaw05_awake.f = some true from rfl]
  simp only [Option.bind_some]
  rw [if_pos (by trivial)]
  by_cases hl : (D.length : Int) > 30
  · rw [if_pos (decide_eq_true hl)]
  · have hl : D.length ≤ 30 := by omega
    have hL : (plL a n b m x y D).length = D.length + 2 := plL_len a n b m x y D
    have hN : path_next.f a n b m x y D = some (nextI D) := by
      unfold path_next.f
      rw [if_pos (by omega)]
    have hm := goes_main a n b m x y D hl 200 (by omega)
    rw [if_neg (by rw [decide_eq_false (by omega)]; simp), plain_f' a n b m x y D hl 200 (by omega)]
    simp only [Option.bind_some]
    unfold path_Next.f
    rw [hN, next_fp a n b m x y D hl 200 (by omega)]
    simp only [Option.bind_some]
    rcases rn_map 0 D with ⟨h1, h2⟩ | ⟨j, h0, h1, h2⟩
    · have hn : nextI D = -1 := h1
      rw [hn, h2, if_pos (by omega)]
      simp only [Option.bind_some]
      rw [if_neg (by decide), if_neg (by decide), show (!(({ data := #[] } : ByteArray).toList == ([] : List UInt8)) || !((0 : Int) == 0)) = false by rw [Go.ByteArray.toList_eq]; simp]
      exact hm
    · have hn : nextI D = (j : Int) := by have := h1; simpa [nextI] using this
      rw [hn, h2, Nat.zero_add, if_neg (by omega), if_pos (by omega), if_pos (by omega)]
      simp only [Option.bind_some]
      rw [decide_eq_true (show ((j + 2 : Nat) : Int) ≥ 0 by omega), if_neg (by decide), if_pos trivial, if_pos (by omega), if_pos (by rw [hL]; omega), rd_pl a n b m x y D j h0, if_neg (by simp [mk37])]
      exact hm
end Go.Proofs.YtpmieapgbdbabaaDoor.Pure
end

section
/- The statement that the law squelchlaw05.PathGoes is true of every input, its arguments left as they were: the row, out of its walk and its plain law. Written by a program of this session (wip/pp/row.py). -/
namespace Go.Proofs.YtpmieapgbdbabaaDoor.pathGoesRow
open Go.ChangeShapes Go.WideShapes Go.ChangeAt Go.RowKit
open Go.ChangeMaps (open_string shut_string)
set_option linter.unusedVariables false
set_option linter.unusedSimpArgs false
theorem own : ownKnob Tryd.prog.godebug = none := by kernel_rfl
theorem laidOut : laidOutB Tryd.prog = true := by kernel_rfl
theorem cells3 : Tryd.prog.cellsOf 3 = 1 := by kernel_rfl
theorem cells4 : Tryd.prog.cellsOf 4 = 1 := by kernel_rfl
theorem cells9 : Tryd.prog.cellsOf 9 = 1 := by kernel_rfl
theorem cells23 : Tryd.prog.cellsOf 23 = 2 := by kernel_rfl
theorem cells24 : Tryd.prog.cellsOf 24 = 1 := by kernel_rfl
theorem cells26 : Tryd.prog.cellsOf 26 = 7 := by kernel_rfl
theorem cells93 : Tryd.prog.cellsOf 93 = 3 := by kernel_rfl
set_option maxRecDepth 100000 in
theorem open23 {H : Type} {enc : TypeId × Value → H} {w : World} {fuel : Nat} {cs : List Value} {x : DataW H × List MemPlace} (h : DataW.trod enc Tryd.prog w 0 (fun _ => true) true fuel 23 cs = some x) :
    ∃ (a_0 : ByteArray) (a_1 : Int), cs = [.string a_0, .int .i64 a_1] ∧ x.1 = (.agg [(.lit (.string a_0.data.toList)), (.lit (.int .i64 a_1))]) ∧ a_0.size ≤ maxLen ∧ (Lit.int .i64 a_1).wf = true := by
  obtain ⟨xs, n, -, rfl, hc, hl, hg⟩ := DataW.trod_struct Tryd.underlying23 h
  rw [cells23] at hc
  obtain ⟨c0, c1, rfl⟩ : ∃ c0 c1, cs = [c0, c1] := by
    match cs, hc with
    | [c0, c1], _ => exact ⟨_, _, rfl⟩
  obtain ⟨y0, y1, rfl⟩ : ∃ y0 y1, xs = [y0, y1] := by
    match xs, hl with
    | [y0, y1], _ => exact ⟨_, _, rfl⟩
  clear h hc hl
  have g0 : DataW.trod enc Tryd.prog w 0 (fun _ => true) true n 9 [c0] = some y0 := by
    have z := hg 0 _ rfl
    simp only [cells9, List.drop_zero, List.drop_succ_cons, List.take_succ_cons, List.take_zero, List.getElem?_cons_zero, List.getElem?_cons_succ] at z
    exact z
  have g1 : DataW.trod enc Tryd.prog w 0 (fun _ => true) true n 3 [c1] = some y1 := by
    have z := hg 1 _ rfl
    simp only [cells3, List.drop_zero, List.drop_succ_cons, List.take_succ_cons, List.take_zero, List.getElem?_cons_zero, List.getElem?_cons_succ] at z
    exact z
  clear hg
  obtain ⟨a_0, e0, rfl, wa_0⟩ := DataW.trod_string Tryd.underlying9 g0
  simp only [List.cons.injEq, and_true] at e0
  subst e0
  obtain ⟨a_1, e1, rfl, wa_1⟩ := DataW.trod_int Tryd.underlying3 g1
  simp only [List.cons.injEq, and_true] at e1
  subst e1
  exact ⟨a_0, a_1, rfl, by simp only [List.map_cons, List.map_nil], wa_0, wa_1⟩
set_option maxRecDepth 100000 in
theorem open93 {H : Type} {enc : TypeId × Value → H} {w : World} {fuel : Nat} {cs : List Value} {x : DataW H × List MemPlace} (h : DataW.trod enc Tryd.prog w 0 (fun _ => true) true fuel 93 cs = some x) :
    ∃ (a_0_0 : ByteArray) (a_0_1 : Int) (a_1 : Bool), cs = [.string a_0_0, .int .i64 a_0_1, .bool a_1] ∧ x.1 = (.agg [(.agg [(.lit (.string a_0_0.data.toList)), (.lit (.int .i64 a_0_1))]), (.lit (.bool a_1))]) ∧ a_0_0.size ≤ maxLen ∧ (Lit.int .i64 a_0_1).wf = true ∧ True := by
  obtain ⟨xs, n, -, rfl, hc, hl, hg⟩ := DataW.trod_struct Tryd.underlying93 h
  rw [cells93] at hc
  obtain ⟨c0, c1, c2, rfl⟩ : ∃ c0 c1 c2, cs = [c0, c1, c2] := by
    match cs, hc with
    | [c0, c1, c2], _ => exact ⟨_, _, _, rfl⟩
  obtain ⟨y0, y1, rfl⟩ : ∃ y0 y1, xs = [y0, y1] := by
    match xs, hl with
    | [y0, y1], _ => exact ⟨_, _, rfl⟩
  clear h hc hl
  have g0 : DataW.trod enc Tryd.prog w 0 (fun _ => true) true n 23 [c0, c1] = some y0 := by
    have z := hg 0 _ rfl
    simp only [cells23, List.drop_zero, List.drop_succ_cons, List.take_succ_cons, List.take_zero, List.getElem?_cons_zero, List.getElem?_cons_succ] at z
    exact z
  have g1 : DataW.trod enc Tryd.prog w 0 (fun _ => true) true n 4 [c2] = some y1 := by
    have z := hg 1 _ rfl
    simp only [cells4, List.drop_zero, List.drop_succ_cons, List.take_succ_cons, List.take_zero, List.getElem?_cons_zero, List.getElem?_cons_succ] at z
    exact z
  clear hg
  obtain ⟨a_0_0, a_0_1, e0, d0, wa_0_0, wa_0_1⟩ := open23 g0
  simp only [List.cons.injEq, and_true] at e0
  obtain ⟨rfl, rfl⟩ := e0
  obtain ⟨a_1, e1, rfl⟩ := DataW.trod_bool Tryd.underlying4 g1
  simp only [List.cons.injEq, and_true] at e1
  subst e1
  exact ⟨a_0_0, a_0_1, a_1, rfl, by simp only [List.map_cons, List.map_nil, d0], wa_0_0, wa_0_1, trivial⟩
set_option maxRecDepth 100000 in
theorem open26 {H : Type} {enc : TypeId × Value → H} {w : World} {fuel : Nat} {cs : List Value} {x : DataW H × List MemPlace} (h : DataW.trod enc Tryd.prog w 0 (fun _ => true) true fuel 26 cs = some x) :
    ∃ (a_0_0 : ByteArray) (a_0_1 : Int) (a_1_0 : ByteArray) (a_1_1 : Int) (a_2 : Bool) (a_3 : Bool) (Aa_4 : Option Addr) (ca_4 : Nat) (a_4 : List QAll.S93) (Da_4 : DataW H), cs = [.string a_0_0, .int .i64 a_0_1, .string a_1_0, .int .i64 a_1_1, .bool a_2, .bool a_3, .slice Aa_4 a_4.length ca_4] ∧ x.1 = (.agg [(.agg [(.lit (.string a_0_0.data.toList)), (.lit (.int .i64 a_0_1))]), (.agg [(.lit (.string a_1_0.data.toList)), (.lit (.int .i64 a_1_1))]), (.lit (.bool a_2)), (.lit (.bool a_3)), Da_4]) ∧ a_0_0.size ≤ maxLen ∧ (Lit.int .i64 a_0_1).wf = true ∧ a_1_0.size ≤ maxLen ∧ (Lit.int .i64 a_1_1).wf = true ∧ True ∧ True ∧ (QAll.k93.C w Aa_4 a_4.length a_4 ∧ a_4.length ≤ ca_4 ∧ ∀ d ∈ a_4, d.f0.f0.size ≤ maxLen ∧ (Lit.int .i64 d.f0.f1).wf = true) := by
  obtain ⟨xs, n, -, rfl, hc, hl, hg⟩ := DataW.trod_struct Tryd.underlying26 h
  rw [cells26] at hc
  obtain ⟨c0, c1, c2, c3, c4, c5, c6, rfl⟩ : ∃ c0 c1 c2 c3 c4 c5 c6, cs = [c0, c1, c2, c3, c4, c5, c6] := by
    match cs, hc with
    | [c0, c1, c2, c3, c4, c5, c6], _ => exact ⟨_, _, _, _, _, _, _, rfl⟩
  obtain ⟨y0, y1, y2, y3, y4, rfl⟩ : ∃ y0 y1 y2 y3 y4, xs = [y0, y1, y2, y3, y4] := by
    match xs, hl with
    | [y0, y1, y2, y3, y4], _ => exact ⟨_, _, _, _, _, rfl⟩
  clear h hc hl
  have g0 : DataW.trod enc Tryd.prog w 0 (fun _ => true) true n 23 [c0, c1] = some y0 := by
    have z := hg 0 _ rfl
    simp only [cells23, List.drop_zero, List.drop_succ_cons, List.take_succ_cons, List.take_zero, List.getElem?_cons_zero, List.getElem?_cons_succ] at z
    exact z
  have g1 : DataW.trod enc Tryd.prog w 0 (fun _ => true) true n 23 [c2, c3] = some y1 := by
    have z := hg 1 _ rfl
    simp only [cells23, List.drop_zero, List.drop_succ_cons, List.take_succ_cons, List.take_zero, List.getElem?_cons_zero, List.getElem?_cons_succ] at z
    exact z
  have g2 : DataW.trod enc Tryd.prog w 0 (fun _ => true) true n 4 [c4] = some y2 := by
    have z := hg 2 _ rfl
    simp only [cells4, List.drop_zero, List.drop_succ_cons, List.take_succ_cons, List.take_zero, List.getElem?_cons_zero, List.getElem?_cons_succ] at z
    exact z
  have g3 : DataW.trod enc Tryd.prog w 0 (fun _ => true) true n 4 [c5] = some y3 := by
    have z := hg 3 _ rfl
    simp only [cells4, List.drop_zero, List.drop_succ_cons, List.take_succ_cons, List.take_zero, List.getElem?_cons_zero, List.getElem?_cons_succ] at z
    exact z
  have g4 : DataW.trod enc Tryd.prog w 0 (fun _ => true) true n 24 [c6] = some y4 := by
    have z := hg 4 _ rfl
    simp only [cells24, List.drop_zero, List.drop_succ_cons, List.take_succ_cons, List.take_zero, List.getElem?_cons_zero, List.getElem?_cons_succ] at z
    exact z
  clear hg
  obtain ⟨a_0_0, a_0_1, e0, d0, wa_0_0, wa_0_1⟩ := open23 g0
  simp only [List.cons.injEq, and_true] at e0
  obtain ⟨rfl, rfl⟩ := e0
  obtain ⟨a_1_0, a_1_1, e1, d1, wa_1_0, wa_1_1⟩ := open23 g1
  simp only [List.cons.injEq, and_true] at e1
  obtain ⟨rfl, rfl⟩ := e1
  obtain ⟨a_2, e2, rfl⟩ := DataW.trod_bool Tryd.underlying4 g2
  simp only [List.cons.injEq, and_true] at e2
  subst e2
  obtain ⟨a_3, e3, rfl⟩ := DataW.trod_bool Tryd.underlying4 g3
  simp only [List.cons.injEq, and_true] at e3
  subst e3
  obtain ⟨Aa_4, ca_4, a_4, e4, wa_4⟩ := QAll.rows_of_trod QAll.k93 Tryd.underlying24 cells93 (fun d => d.f0.f0.size ≤ maxLen ∧ (Lit.int .i64 d.f0.f1).wf = true) (fun n cs' z hz => by
    obtain ⟨b_0_0, b_0_1, b_1, rfl, -, wb_0_0, wb_0_1, wb_1⟩ := open93 hz
    exact ⟨(⟨⟨b_0_0, b_0_1⟩, b_1⟩ : QAll.S93), QAll.k93_mk w _, rfl, wb_0_0, wb_0_1⟩) g4
  simp only [List.cons.injEq, and_true] at e4
  subst e4
  exact ⟨a_0_0, a_0_1, a_1_0, a_1_1, a_2, a_3, Aa_4, ca_4, a_4, y4.1, rfl, by simp only [List.map_cons, List.map_nil, d0, d1], wa_0_0, wa_0_1, wa_1_0, wa_1_1, trivial, trivial, wa_4⟩
theorem met (os : Os) (args : Array Value) : laidMetH Tryd.prog Rows.pathGoesRow.laid ((World.laidAll Tryd.prog os Rows.pathGoesRow.laid).forCall (fun _ _ => 0) ⟨#[], args, []⟩).memory :=
  (show laidMet Tryd.prog Rows.pathGoesRow.laid _ from laidMet_laidAll _ (by kernel_rfl) (by kernel_rfl))
set_option maxRecDepth 100000 in
theorem lifted (os : Os) (started : os.Started) (H : Type) (enc : TypeId × Value → H) :
    ReturnsInHanded {} Tryd.checked os 3 .any (fun w args => (Rows.pathGoesSpec.pre enc Tryd.prog Tryd.f3 Rows.pathGoesRow.domain false w args ∧ laidMetH Tryd.prog Rows.pathGoesRow.laid w) ∧ sizedMet enc Tryd.prog Tryd.f3 (OpenSpec.ofChange Rows.pathGoesSpec) false w args) (Rows.pathGoesSpec.post enc Tryd.prog Tryd.f3 false true false false) := by
  refine QAll.returns_laid_shaped (C := Tryd.checked) own started (by kernel_rfl) Tryd.func3
    (ChangeSpec.witness_at (enc := enc) (C := Tryd.checked) (os := os) (X := fun w _ => laidMetH Tryd.prog Rows.pathGoesRow.laid w) false (World.laidAll Tryd.prog os Rows.pathGoesRow.laid) #[.agg #[.string ByteArray.empty, .int .i64 0, .string ByteArray.empty, .int .i64 0, .bool false, .bool false, .slice none 0 0]] 8 (World.laidAll_os _ _ _) (by kernel_rfl) (by kernel_rfl) (by kernel_rfl) (by kernel_rfl) (by kernel_rfl) (met os _)) ?_
  intro W base args ds gs before hval0 hW hcnd hsz0 hL hsh
  have hsz : (DataW.weightsEach Tryd.prog (Tryd.f3.params.toList ++ Rows.pathGoesSpec.plain.varTypes Tryd.prog) (ds ++ gs)).all (· ≤ reachBytes) = true := hsz0
  have hval : ∀ (j : Nat) t v, Tryd.f3.params[j]? = some t → args[j]? = some v → Value.okWide Tryd.prog W .any base t v := hval0
  have hW' := hW
  obtain ⟨p, q, hA0, hV, rfl, hfz, hnd⟩ := hW
  have hA : DataW.TrodAll enc Tryd.prog W 0 (fun _ => true) true Tryd.f3.params.toList args.toList ds p := hA0
  rw [Tryd.params3] at hA hval hsz
  obtain ⟨v0, vs0, d0, ds0, p0, q0, hargs, rfl, rfl, h0, r0⟩ := trodAll_cons hA
  obtain ⟨rfl, rfl, rfl⟩ := trodAll_nil r0
  obtain rfl : args = #[v0] := by cases args; simp_all
  obtain ⟨rfl, rfl⟩ := trodVars_none hV
  have k0 := h0
  have lt0 : ∀ x ∈ p0, x.block < W.heap.size := by obtain ⟨m, hm⟩ := k0; exact DataW.trod_lt m _ _ _ hm
  obtain ⟨cs0, rfl, -⟩ := okWide_struct Tryd.underlying26 (hval 0 26 v0 rfl rfl)
  obtain ⟨fu0, hf0⟩ := h0
  obtain ⟨a0_0_0, a0_0_1, a0_1_0, a0_1_1, a0_2, a0_3, Aa0_4, ca0_4, a0_4, Da0_4, e0, hd0, wa0_0_0, wa0_0_1, wa0_1_0, wa0_1_1, wa0_2, wa0_3, wa0_4⟩ := open26 hf0
  replace e0 : cs0 = #[.string a0_0_0, .int .i64 a0_0_1, .string a0_1_0, .int .i64 a0_1_1, .bool a0_2, .bool a0_3, .slice Aa0_4 a0_4.length ca0_4] := by apply Array.ext'; simpa [Value.cells] using e0
  subst e0
  replace hd0 : d0 = (.agg [(.agg [(.lit (.string a0_0_0.data.toList)), (.lit (.int .i64 a0_0_1))]), (.agg [(.lit (.string a0_1_0.data.toList)), (.lit (.int .i64 a0_1_1))]), (.lit (.bool a0_2)), (.lit (.bool a0_3)), Da0_4]) := hd0
  subst hd0
  have hz : a0_0_0.size ≤ 140737488351232 ∧ a0_1_0.size ≤ 140737488351232 := by
    have z := hsz
    skip
    simp [DataW.weightsEach, DataW.weights, reachBytes, Tryd.underlying3, Tryd.underlying4, Tryd.underlying9, Tryd.underlying23, Tryd.underlying24, Tryd.underlying26, Tryd.underlying93] at z
    first | omega | exact ⟨of_decide_eq_true z.1, of_decide_eq_true z.2⟩ | exact ⟨of_decide_eq_true z.1, of_decide_eq_true z.2.1⟩ | exact ⟨of_decide_eq_true z.1, of_decide_eq_true z.2.1⟩ | exact ⟨of_decide_eq_true z.1, of_decide_eq_true z.2.1⟩
  obtain ⟨za0_0_0, za0_1_0⟩ := hz
  clear hA0 hval0 hsz0 hsz
  obtain ⟨k, hp⟩ := Pure.PathGoes a0_0_0 a0_0_1 a0_1_0 a0_1_1 a0_2 a0_3 a0_4 za0_0_0 wa0_0_1 za0_1_0 wa0_1_1 wa0_4.2.2
  refine (QAll.squelchlaw05_PathGoes.calls k a0_0_0 a0_0_1 a0_1_0 a0_1_1 a0_2 a0_3 Aa0_4 ca0_4 a0_4 true W rfl wa0_4.1 wa0_4.2.1 hp).mono fun e W' ⟨he, bel⟩ => ?_
  subst he
  exact ⟨_, rfl, _, _, _, [], _, [], hW', trodAll_mk1 (shut_bool Tryd.underlying4 _), (trodAll_cons_mk (Below.trod laidOut (by kernel_rfl) (of_decide_eq_true (by kernel_rfl)) k0 bel lt0) trodAll_mk0), rfl, bel.frame _, fun h => by cases h⟩
theorem over : Rows.pathGoesRow.holds Tryd.pinned (OpenSpec.ofChange Rows.pathGoesSpec) :=
  OpenClaim.holds_of_wide 3 Tryd.f3 rfl rfl rfl rfl rfl rfl rfl ⟨rfl, rfl, rfl, rfl, rfl⟩ rfl rfl rfl rfl rfl (by kernel_rfl) Tryd.func3 (by kernel_rfl)
    (of_decide_eq_true (by kernel_rfl)) (by unfold Func.isWrapper; first | (rw [if_pos (by decide +kernel)]; kernel_rfl) | (rw [if_neg (by decide +kernel)]; exact ⟨rfl, rfl⟩))
    (fun os started H enc _ => lifted os started H enc)
theorem card : Rows.PathGoesCardSaid :=
  Claim7.holds_tied_plain_at .later [] [.data, .data, .data] true (true, "b63f2f92baa42f5091e235388c6ae0d54991875acb84ccae606eb7f7e9e6d94e") true
    over (fun _ h => by cases h) (by kernel_rfl) (fun _ h => by cases h) pathGoes_row_tie rfl ⟨rfl, rfl⟩ (by kernel_rfl) rfl
    (fun f fn hf hfn => by
      obtain rfl : f = 3 := Option.some.inj ((show Tryd.prog.funcNamed "squelch/squelchlaw05.PathGoes" = some 3 by kernel_rfl).symm.trans hf) |>.symm
      obtain rfl : fn = Tryd.f3 := (Option.some.inj (Tryd.func3.symm.trans hfn)).symm
      exact ⟨by kernel_rfl, fun j t ht => by
        rw [Tryd.params3] at ht
        have hm := Array.mem_of_getElem? ht
        simp at hm
        rcases hm with rfl
        · exact (show Tryd.prog.wantsStandIn 26 = false by kernel_rfl)
      ⟩)
    (by kernel_rfl)
end Go.Proofs.YtpmieapgbdbabaaDoor.pathGoesRow
namespace Go.Proofs.YtpmieapgbdbabaaDoor
theorem pathGoes_holds : Rows.PathGoesCardSaid := pathGoesRow.card
#print axioms pathGoes_holds
end Go.Proofs.YtpmieapgbdbabaaDoor
end
