/- The row of the law CallDistinct, out of its walks and its plain law. -/
import Derived.Test.YtpmieapgbdbabaaDoorMCallDistinct0
import Derived.Lib.IndexLaws
import Derived.KernelRfl
import Derived.Test.YtpmieapgbdbabaaDoorRows
import Derived.Lib.LaidU8
import Derived.Lay
import Derived.Handed
import Derived.SizedLaws
import Derived.LaidLaws
import Derived.Shelf.Vars
import Derived.LaidHandle
import Derived.Stop.Joined
import Derived.Deep.Slices
import Derived.Deep.Fields
import Derived.ChangeSame
import Derived.Test.YtpmieapgbdbabaaDoorTie
import Derived.Test.YtpmieapgbdbabaaDoorCards
import Derived.WalkKit
import Derived.ProofKit
import Derived.OpenShut
import Derived.ShutString
import Derived.ChangeOld
import Derived.Below
import Derived.Lib.SmallJoins
section
/- What the reference says of a call's word: which call is right, its digits, and what is read of a word: as much as the walked program tells; over plain strings and numbers. -/
set_option linter.unusedVariables false
namespace Go.Proofs.YtpmieapgbdbabaaDoor.Pure
open Go.RowKit Go.Proofs.YtpmieapgbdbabaaDoor.QAll Go.Proofs.YtpmieapgbdbabaaDoorW.PrintWords Go.Proofs.YtpmieapgbdbabaaDoorW.PrintLast

theorem ba_eq {a b : ByteArray} (h : a.toList = b.toList) : a = b := by
  rw [Go.ByteArray.toList_eq, Go.ByteArray.toList_eq] at h
  cases a; cases b
  congr 1
  exact Array.ext' h
theorem len_eq (a : ByteArray) : a.toList.length = a.size := by rw [Go.ByteArray.toList_eq]; simp
theorem bt_at (s : ByteArray) (i : Nat) (h : i < s.size) : ∃ c r, s.toList.drop i = c :: r ∧ s.toList.drop (i + 1) = r ∧ bt s i = (c.toNat : Int) := by
  have hl : i < s.toList.length := by rw [len_eq]; exact h
  refine ⟨s.toList[i], s.toList.drop (i + 1), List.drop_eq_getElem_cons hl, rfl, ?_⟩
  rw [bt_data s i h]
  congr 2
  simp only [Go.ByteArray.toList_eq]
theorem drop_all (s : ByteArray) (i : Nat) (h : s.size ≤ i) : s.toList.drop i = [] := List.drop_eq_nil_of_le (by rw [len_eq]; exact h)
theorem wrap_succ (i : Nat) (h : i < 9223372036854775807) : wrap64 ((i : Int) + 1) = ((i + 1 : Nat) : Int) := by unfold wrap64; omega

theorem ref_right_l (s : ByteArray) (n : Int) (hs : s.size < 9223372036854775807) : ∀ (d k i : Nat), s.size - i ≤ d → d + 1 ≤ k → i ≤ s.size →
    squelchref04_Right.l0 k (i : Int) s n = some ((s.toList.drop i).all fun c => letB c.toNat)
  | d, 0, i, _, hk, _ => absurd hk (by omega)
  | d, k + 1, i, hd, hk, hi => by
    rw [squelchref04_Right.l0]
    by_cases h : i < s.size
    · obtain ⟨c, r, e1, e2, e3⟩ := bt_at s i h
      obtain ⟨d', rfl⟩ : ∃ d', d = d' + 1 := ⟨d - 1, by omega⟩
      have ih := ref_right_l s n hs d' k (i + 1) (by omega) (by omega) (by omega)
      rw [if_pos (by omega), if_pos (by omega), e3, wrap_succ i (by omega), ih, e1, e2]
      simp only [List.all_cons]
      unfold letB
      by_cases h1 : (c.toNat : Int) ≥ 65
      · rw [if_pos h1]
        by_cases h2 : (c.toNat : Int) ≤ 90
        · rw [if_pos h2, decide_eq_true (by omega), Bool.true_and]
        · rw [if_neg h2, if_pos (by omega), if_neg (by omega), decide_eq_false (by omega), Bool.false_and]
      · rw [if_neg h1]
        by_cases h2 : (c.toNat : Int) ≥ 48
        · rw [if_pos h2]
          by_cases h3 : (c.toNat : Int) ≤ 57
          · rw [if_pos h3, decide_eq_true (by omega), Bool.true_and]
          · rw [if_neg h3, decide_eq_false (by omega), Bool.false_and]
        · rw [if_neg h2, decide_eq_false (by omega), Bool.false_and]
    · rw [if_neg (by omega), drop_all s i (by omega)]
      rfl
theorem ref_right (s : ByteArray) (n : Int) (hs : s.size < 9223372036854775807) (k : Nat) (hk : s.size + 2 ≤ k) : squelchref04_Right.f k s n = some (rightB s n) := by
  obtain ⟨k, rfl⟩ : ∃ k', k = k' + 1 := ⟨k - 1, by omega⟩
  unfold squelchref04_Right.f rightB
  have h0 := ref_right_l s n hs s.size k 0 (by omega) (by omega) (by omega)
  simp only [squelchref04_Right.j0]
  rw [show ((0 : Nat) : Int) = 0 from rfl] at h0
  rw [h0, List.drop_zero]
  have hl : letsB s = s.toList.all fun c => letB c.toNat := by unfold letsB; rw [Go.ByteArray.toList_eq]
  rw [hl]
  by_cases h1 : (s.size : Int) < 1
  · rw [if_pos h1, if_pos trivial, decide_eq_false (show ¬ 1 ≤ s.size by omega)]; simp
  · rw [if_neg h1, decide_eq_true (show 1 ≤ s.size by omega)]
    by_cases h2 : (s.size : Int) > 6
    · rw [if_pos h2, if_pos trivial, decide_eq_false (show ¬ s.size ≤ 6 by omega)]; simp
    · rw [if_neg h2, decide_eq_true (show s.size ≤ 6 by omega)]
      by_cases h3 : n < 0
      · rw [if_pos h3, if_pos trivial, decide_eq_false (show ¬ 0 ≤ n by omega)]; simp
      · rw [if_neg h3, decide_eq_true (show 0 ≤ n by omega)]
        by_cases h4 : n > 15
        · rw [decide_eq_true h4, if_pos rfl, decide_eq_false (show ¬ n ≤ 15 by omega)]; simp
        · rw [decide_eq_false h4, if_neg (by simp), decide_eq_true (show n ≤ 15 by omega)]; simp

end Go.Proofs.YtpmieapgbdbabaaDoor.Pure
end

section
/- The plain law of CallDistinct: calls are distinct just if all are right, and no two alike; over plain lists. -/
set_option linter.unusedVariables false
set_option linter.unusedSimpArgs false
namespace Go.Proofs.YtpmieapgbdbabaaDoor.Pure
open Go.RowKit Go.Proofs.YtpmieapgbdbabaaDoor.QAll Go.Proofs.YtpmieapgbdbabaaDoorW.PrintWords Go.Proofs.YtpmieapgbdbabaaDoorW.PrintLast

theorem awake04d : squelchlaw04_awake.f = some true := by kernel_rfl
theorem ne_eqC (c d : S23) : ((!(c.f0.toList == d.f0.toList)) || (!(c.f1 == d.f1))) = !(eqC d c) := by
  have h1 : (c.f0.toList == d.f0.toList) = decide (d.f0 = c.f0) := by
    by_cases h : d.f0 = c.f0
    · rw [decide_eq_true h, h]; simp
    · rw [decide_eq_false h]
      exact beq_eq_false_iff_ne.2 (fun e => h (ba_eq e.symm))
  have h2 : (c.f1 == d.f1) = decide (d.f1 = c.f1) := by
    by_cases h : d.f1 = c.f1
    · rw [decide_eq_true h, h]; simp
    · rw [decide_eq_false h]
      exact beq_eq_false_iff_ne.2 (fun e => h e.symm)
  unfold eqC
  rw [h1, h2, Bool.not_and]
theorem dist_l1 (l : List S23) (n i' : Int) (pre : List S23) (hp : pre.length ≤ 1000) (c : S23) : ∀ (d j K : Nat) (x : Bool), pre.length - j ≤ d → d + 2 ≤ K → j ≤ pre.length →
    ∃ K', K ≤ K' + d + 1 ∧ squelchlaw04_CallDistinct.l1 K l x l n i' pre (pre.length : Int) (j : Int) c.f0 c.f1 = squelchlaw04_CallDistinct.l0 K' l (x && !((pre.drop j).any (fun e => eqC e c))) l n (wrap64 (i' + 1))
  | d, j, 0, x, _, hk, _ => absurd hk (by omega)
  | d, j, K + 1, x, hd, hk, hj => by
    rw [squelchlaw04_CallDistinct.l1]
    by_cases h : j < pre.length
    · obtain ⟨d', rfl⟩ : ∃ d', d = d' + 1 := ⟨d - 1, by omega⟩
      rw [if_pos (by omega), if_pos (by omega), if_pos (by omega), wrap_succ j (by omega), drop_T23 pre j h, List.any_cons]
      cases x with
      | true =>
        obtain ⟨K', h1, h2⟩ := dist_l1 l n i' pre hp c d' (j + 1) K (!(eqC (rd_T23 pre (j : Int)) c)) (by omega) (by omega) (by omega)
        refine ⟨K', by omega, ?_⟩
        rw [if_pos rfl, ne_eqC c (rd_T23 pre (j : Int)), h2, Bool.true_and, Bool.not_or]
      | false =>
        obtain ⟨K', h1, h2⟩ := dist_l1 l n i' pre hp c d' (j + 1) K false (by omega) (by omega) (by omega)
        refine ⟨K', by omega, ?_⟩
        rw [if_neg (by decide), h2, Bool.false_and, Bool.false_and]
    · obtain rfl : j = pre.length := by omega
      refine ⟨K, by omega, ?_⟩
      rw [if_neg (by omega), List.drop_length]
      simp
theorem dist_l0 (l : List S23) (hl : l.length ≤ 60) (hD : call_Distinct.f l = some (distL [] l)) : ∀ (d i K : Nat) (W : Bool), l.length - i ≤ d → d * 100 + 200 ≤ K → i ≤ l.length → distL [] l = (W && distL (l.take i) (l.drop i)) →
    squelchlaw04_CallDistinct.l0 K l W l (l.length : Int) (i : Int) = some true
  | d, i, 0, W, _, hk, _, _ => absurd hk (by omega)
  | d, i, K + 1, W, hd, hk, hi, hW => by
    rw [squelchlaw04_CallDistinct.l0]
    by_cases h : i < l.length
    · obtain ⟨d', rfl⟩ : ∃ d', d = d' + 1 := ⟨d - 1, by omega⟩
      rw [if_pos (by omega), if_pos (by omega), if_pos (by omega)]
      by_cases hbig : (((rd_T23 l (i : Int)).f0.size : Nat) : Int) > 100
      · rw [if_pos hbig]
      · rw [if_neg hbig]
        have htl : (l.take i).length = i := by rw [List.length_take]; omega
        have step : ∀ X : Bool, X = (W && rightB (rd_T23 l (i : Int)).f0 (rd_T23 l (i : Int)).f1) → squelchlaw04_CallDistinct.j1 K l X (i : Int) l (l.length : Int) (i : Int) (rd_T23 l (i : Int)).f0 (rd_T23 l (i : Int)).f1 = some true := by
          intro X hX
          obtain ⟨K1, rfl⟩ : ∃ K1, K = K1 + 1 := ⟨K - 1, by omega⟩
          rw [squelchlaw04_CallDistinct.j1, if_pos (by omega), if_pos (by omega), Int.toNat_natCast]
          simp only [Option.bind_some]
          obtain ⟨K', h1, h2⟩ := dist_l1 l (l.length : Int) (i : Int) (l.take i) (by omega) (rd_T23 l (i : Int)) 60 0 K1 X (by omega) (by omega) (by omega)
          rw [show ((0 : Nat) : Int) = 0 from rfl] at h2
          rw [h2, wrap_succ i (by omega), List.drop_zero]
          refine dist_l0 l hl hD d' (i + 1) K' _ (by omega) (by omega) (by omega) ?_
          rw [hW, drop_T23 l i h, take_T23 l i h, hX]
          show (W && (rightB (rd_T23 l (i : Int)).f0 (rd_T23 l (i : Int)).f1 && (!((l.take i).any (fun d => eqC d (rd_T23 l (i : Int)))) && distL (l.take i ++ [rd_T23 l (i : Int)]) (l.drop (i + 1))))) = _
          cases W <;> cases rightB (rd_T23 l (i : Int)).f0 (rd_T23 l (i : Int)).f1 <;> simp
        cases W with
        | true =>
          rw [if_pos rfl, ref_right _ _ (by omega) K (by omega)]
          simp only [Option.bind_some]
          exact step _ (by simp)
        | false =>
          rw [if_neg (by decide)]
          exact step _ (by simp)
    · obtain rfl : i = l.length := by omega
      rw [if_neg (by omega), hD]
      simp only [Option.bind_some]
      rw [List.take_length, List.drop_length, show distL l [] = true from rfl, Bool.and_true] at hW
      rw [hW]
      simp
theorem CallDistinct : ∀ (l0 : List S23), (∀ d ∈ l0, d.f0.size ≤ maxLen ∧ (Lit.int .i64 d.f1).wf = true) → ∃ k, squelchlaw04_CallDistinct.f k l0 = some true := by
  intro l h
  refine ⟨10000, ?_⟩
  unfold squelchlaw04_CallDistinct.f
  rw [awake04d]
  simp only [Option.bind_some]
  rw [if_pos (by trivial)]
  by_cases hl : (l.length : Int) > 60
  · rw [if_pos hl]
  · rw [if_neg hl]
    have hD : call_Distinct.f l = some (distL [] l) := by
      unfold call_Distinct.f
      rw [if_pos]
      rw [Bool.and_eq_true, decide_eq_true_eq, List.all_eq_true]
      refine ⟨by omega, fun d hd => ?_⟩
      obtain ⟨h1, h2⟩ := h d hd
      rw [Bool.and_eq_true, decide_eq_true_eq]
      exact ⟨h1, h2⟩
    have := dist_l0 l (by omega) hD 60 0 10000 true (by omega) (by omega) (by omega) (by rw [List.take_zero, List.drop_zero]; rfl)
    exact this
end Go.Proofs.YtpmieapgbdbabaaDoor.Pure
end

section
/- From a row's listed variables, and the world's shape, to what the walks ask of the package's variables; and the wrap of a row that hands on both. -/
set_option linter.unusedVariables false
namespace Go.Proofs.YtpmieapgbdbabaaDoor.QAll
open Go.RowKit Go.Lib

theorem lz1 : Tryd.prog.globalNamed "strconv.ErrSyntax" = some 1 := by kernel_rfl
theorem lz2 : Tryd.prog.globalNamed "strconv.ErrRange" = some 2 := by kernel_rfl
theorem lz3 : Tryd.prog.globalNamed "internal/strconv.uint64pow10" = some 3 := by kernel_rfl
theorem lzt1 : (Tryd.prog.globals[1]?).map (·.type) = some 109 := by kernel_rfl
theorem lzt2 : (Tryd.prog.globals[2]?).map (·.type) = some 109 := by kernel_rfl
theorem lzt3 : (Tryd.prog.globals[3]?).map (·.type) = some 186 := by kernel_rfl
theorem lzu109 : Tryd.prog.underlying 109 = some (.interface #[("Error", 112)]) := by kernel_rfl
theorem tab_of_reads {W : World} {name : String} {k : IntKind} {zs : List Int} {g : Nat} {t e : TypeId} {n : Nat}
    (hg : Tryd.prog.globalNamed name = some g) (hty : (Tryd.prog.globals[g]?).map (·.type) = some t) (ht : Tryd.prog.underlying t = some (.array n e)) (he : Tryd.prog.underlying e = some (.int k)) (hce : Tryd.prog.cellsOf e = 1) (hct : Tryd.prog.cellsOf t = n)
    (h : VarReads Tryd.prog W name (tabData k zs)) : TabIs Tryd.prog W name k zs := by
  obtain ⟨g', t', cs, fuel, p, hg', ht', hvar, hd⟩ := h
  obtain rfl := Option.some.inj (hg.symm.trans hg')
  obtain rfl := Option.some.inj (hty.symm.trans ht')
  unfold TabIs
  rw [hvar, ← cells_of_tab ht he hce hct hd]
theorem err_of_reads {W : World} {name : String} {g : Nat} {nm : String} {d : DataW Unit}
    (hg : Tryd.prog.globalNamed name = some g) (hty : (Tryd.prog.globals[g]?).map (·.type) = some 109)
    (h : VarReads Tryd.prog W name (.iface nm d)) : ∃ ev, W.cell? ⟨g, 0, none⟩ = some ev ∧ (ev = .nilIface ∨ ∃ te pe, ev = .iface te pe) := by
  obtain ⟨g', t', cs, fuel, p, hg', ht', hvar, hd⟩ := h
  obtain rfl := Option.some.inj (hg.symm.trans hg')
  obtain rfl := Option.some.inj (hty.symm.trans ht')
  obtain ⟨fuel', u, v, hcs, _, _⟩ := iface_of_trod lzu109 hd
  refine ⟨.iface u v, ?_, Or.inr ⟨u, v, rfl⟩⟩
  have e : cs = #[.iface u v] := by apply Array.ext'; simpa using hcs
  subst e
  simpa using World.var?_cell hg hvar 0
theorem maxLen_shaped {W : World} (h : W.ShapedOpen Tryd.prog) : ∃ m, W.cell? ⟨0, 0, none⟩ = some (.int .i64 m) :=
  cell_of_shapedOpen_int (t := 3) (zero := #[.int .i64 0]) h (of_decide_eq_true (by kernel_rfl)) (by kernel_rfl) rfl (by kernel_rfl) (by kernel_rfl) Tryd.underlying3
theorem env_of_laid {W : World} {l : List (String × DataW Unit)} (hsh : W.ShapedOpen Tryd.prog) (hL : laidMet Tryd.prog l W)
    (h1 : ("internal/strconv.uint64pow10", Rows.laid_internal_strconv_uint64pow10) ∈ l) (h2 : ("strconv.ErrRange", Rows.laid_strconv_ErrRange) ∈ l) (h3 : ("strconv.ErrSyntax", Rows.laid_strconv_ErrSyntax) ∈ l) : EnvW W := by
  refine ⟨maxLen_shaped hsh, err_of_reads lz1 lzt1 (laidMet.reads hL h3), err_of_reads lz2 lzt2 (laidMet.reads hL h2), ?_⟩
  exact tab_of_reads (t := 186) (zs := Lib.pow10Tab) lz3 lzt3 Tryd.underlying186 Tryd.underlying169 (by kernel_rfl) (by kernel_rfl) (laidMet.reads hL h1)

/-- The wrap of a row that lists variables, with the reach, the listed variables and the world's shape handed on. -/
theorem returns_laid_shaped {H : Type} {enc : TypeId × Value → H} {a : Assume} {C : Checked} {os : Os} {f : FuncId} {fn : Func} {s : ChangeSpec} {conds : List PathCond} {apart fresh handsOn again : Bool} {l : List (String × DataW Unit)}
    (own : ownKnob C.prog.godebug = none) (started : os.Started) (noInit : C.prog.inits.idxOf? f = none) (hfn : C.prog.funcs[f]? = some fn)
    (witness : ∃ (w : World) (tape : Tape) (i : Input), w.os = os ∧ (w.forCall tape i).Shaped C.prog ∧ i.vars = [] ∧ Input.okWide C.prog (w.forCall tape i) .any w.heap.size f i ∧
      ((s.pre enc C.prog fn conds apart (w.forCall tape i).memory i.args ∧ laidMetH C.prog l (w.forCall tape i).memory) ∧ sizedMet enc C.prog fn (OpenSpec.ofChange s) apart (w.forCall tape i).memory i.args) ∧ a.holds C.prog (lone (Frame.enter C.prog f i.args .normal) [] (w.forCall tape i)))
    (contract : ∀ (W : World) (base : Nat) (args : Array Value) (ds gs : List (DataW H)) (before : List MemPlace),
      (∀ (j : Nat) t v, fn.params[j]? = some t → args[j]? = some v → Value.okWide C.prog W .any base t v) →
      DataW.Whole enc C.prog fn.params.toList s.vars apart W args.toList ds gs before →
      conds.all (PathCond.test C.prog ⟨fn.params.toList, ds, s.plain.varTypes C.prog, gs⟩) = true →
      (DataW.weightsEach C.prog (fn.params.toList ++ s.plain.varTypes C.prog) (ds ++ gs)).all (· ≤ reachBytes) = true → laidMetH C.prog l W → W.ShapedOpen C.prog →
      Calls C.prog f args W fun e W' => ∃ v, e = .returned v ∧ s.post enc C.prog fn apart fresh handsOn again W args v W') :
    ReturnsInHanded a C os f .any (fun w args => (s.pre enc C.prog fn conds apart w args ∧ laidMetH C.prog l w) ∧ sizedMet enc C.prog fn (OpenSpec.ofChange s) apart w args) (s.post enc C.prog fn apart fresh handsOn again) := by
  refine returnsInHanded_of_calls own started noInit witness ?_
  intro w tape i _ hsh _ hok hpre hholds
  obtain ⟨_, _, _, fn', hfn', _, _, _, _, hval⟩ := hok
  have e : fn' = fn := Option.some.inj (hfn'.symm.trans hfn)
  subst e
  obtain ⟨⟨⟨ds, gs, before, hw, hc⟩, hx⟩, hz⟩ := hpre
  have hw' := DataW.Whole.of_heap (w' := w.forCall tape i) (by rfl) hw
  refine (contract (w.forCall tape i) w.heap.size i.args ds gs before hval hw' hc (hz.weights hw) (laidMetH.of_heap (by rfl) hx) hsh).mono fun e W' ⟨v, he, hp⟩ => ?_
  subst he
  exact ChangeSpec.post_blind hp
end Go.Proofs.YtpmieapgbdbabaaDoor.QAll
end

section
/- A slice that came in, laid open: its elements as a list, read as the walks read them. -/
set_option linter.unusedVariables false
namespace Go.Proofs.YtpmieapgbdbabaaDoor.QAll
open Go.ChangeShapes Go.WideShapes Go.Deep Go.Proofs.YtpmieapgbdbabaaDoorW.PrintWords
theorem list_of {α : Type} {Pr : Nat → α → Prop} : ∀ n : Nat, (∀ i, i < n → ∃ a, Pr i a) → ∃ l : List α, l.length = n ∧ ∀ i a, l[i]? = some a → Pr i a
  | 0, _ => ⟨[], rfl, fun i a h => by simp at h⟩
  | n + 1, h => by
    obtain ⟨l, hl, hp⟩ := list_of n (fun i hi => h i (by omega))
    obtain ⟨a, ha⟩ := h n (by omega)
    refine ⟨l ++ [a], by simp [hl], fun i b hb => ?_⟩
    by_cases hi : i < n
    · rw [List.getElem?_append_left (by omega)] at hb
      exact hp i b hb
    · by_cases he : i = n
      · subst he
        rw [← hl] at hb
        simp at hb
        subst hb
        exact ha
      · rw [List.getElem?_eq_none (by simp; omega)] at hb
        cases hb
theorem rows_of_trod {α H : Type} {enc : TypeId × Value → H} {P : Program} {w : World} {t e : TypeId} {fuel : Nat} {cs : List Value} {x : DataW H × List MemPlace} (d : Kd α) (ht : P.underlying t = some (.slice e)) (hC : P.cellsOf e = d.sz) (F : α → Prop)
    (hel : ∀ (n : Nat) (cs' : List Value) (y : DataW H × List MemPlace), DataW.trod enc P w 0 (fun _ => true) true n e cs' = some y → ∃ a, d.K w a cs' ∧ cs'.length = d.sz ∧ F a)
    (h : DataW.trod enc P w 0 (fun _ => true) true fuel t cs = some x) : ∃ (A : Option Addr) (c : Nat) (l : List α), cs = [.slice A l.length c] ∧ d.C w A l.length l ∧ l.length ≤ c ∧ ∀ a ∈ l, F a := by
  rcases open_slice ht h with ⟨rfl, _⟩ | ⟨a, len, cap, m, n, D, Pl, hcs, hb, hl, hm, hmm, hx, hi⟩
  · exact ⟨none, 0, [], rfl, Kd.C_nil d w, Nat.le_refl _, fun a h => by cases h⟩
  · have hml : len ≤ m := by rw [hmm]; simpa using hl
    obtain ⟨l, hll, hp⟩ := list_of (Pr := fun i b => F b ∧ ∃ c, c.length = d.sz ∧ d.K w b c ∧ ∀ j u, c[j]? = some u → w.cell? (a.add (i * d.sz + j)) = some u) len (fun i hil => by
      obtain ⟨cs', hc, ht'⟩ := hi i (by omega)
      obtain ⟨b, hK, hlen, hF⟩ := hel n cs' _ ht'
      obtain ⟨_, hcl, hat⟩ := World.cells?_some hc
      refine ⟨b, hF, cs', hlen, hK, fun j u hu => ?_⟩
      have hj : j < cs'.length := (List.getElem?_eq_some_iff.1 hu).1
      have := hat j (by omega)
      rw [hC] at this
      rw [← Go.Deep.add_add, this, hu])
    refine ⟨some a, cap, l, by rw [hcs, hll], ⟨rfl, ?_, fun _ => ⟨a, rfl, fun j p hjp => (hp j p hjp).2⟩⟩, by omega, fun b hb' => ?_⟩
    · have : maxLen = 9223372036854775807 := rfl
      omega
    · obtain ⟨i, hi', rfl⟩ := List.getElem_of_mem hb'
      exact (hp i _ (List.getElem?_eq_getElem hi')).1
end Go.Proofs.YtpmieapgbdbabaaDoor.QAll
end

section
/- The statement that the law squelchlaw04.CallDistinct is true of every input, its arguments left as they were: the row, out of its walk and its plain law. Written by a program of this session (wip/pp/row.py). -/
namespace Go.Proofs.YtpmieapgbdbabaaDoor.callDistinctRow
open Go.ChangeShapes Go.WideShapes Go.ChangeAt Go.RowKit
open Go.ChangeMaps (open_string shut_string)
set_option linter.unusedVariables false
set_option linter.unusedSimpArgs false
theorem own : ownKnob Tryd.prog.godebug = none := by kernel_rfl
theorem laidOut : laidOutB Tryd.prog = true := by kernel_rfl
theorem cells3 : Tryd.prog.cellsOf 3 = 1 := by kernel_rfl
theorem cells9 : Tryd.prog.cellsOf 9 = 1 := by kernel_rfl
theorem cells23 : Tryd.prog.cellsOf 23 = 2 := by kernel_rfl
set_option maxRecDepth 100000 in
theorem open23 {H : Type} {enc : TypeId × Value → H} {w : World} {fuel : Nat} {cs : List Value} {x : DataW H × List MemPlace} (h : DataW.trod enc Tryd.prog w 0 (fun _ => true) true fuel 23 cs = some x) :
    ∃ (a_0 : ByteArray) (a_1 : Int), cs = [.string a_0, .int .i64 a_1] ∧ x.1 = (.agg [(.lit (.string a_0.data.toList)), (.lit (.int .i64 a_1))]) ∧ a_0.size ≤ maxLen ∧ (Lit.int .i64 a_1).wf = true := by
  obtain ⟨xs, n, -, rfl, hc, hl, hg⟩ := DataW.trod_struct Tryd.underlying23 h
  rw [cells23] at hc
  obtain ⟨c0, c1, rfl⟩ : ∃ c0 c1, cs = [c0, c1] := by
    match cs, hc with
    | [c0, c1], _ => exact ⟨_, _, rfl⟩
  obtain ⟨y0, y1, rfl⟩ : ∃ y0 y1, xs = [y0, y1] := by
    match xs, hl with
    | [y0, y1], _ => exact ⟨_, _, rfl⟩
  clear h hc hl
  have g0 : DataW.trod enc Tryd.prog w 0 (fun _ => true) true n 9 [c0] = some y0 := by
    have z := hg 0 _ rfl
    simp only [cells9, List.drop_zero, List.drop_succ_cons, List.take_succ_cons, List.take_zero, List.getElem?_cons_zero, List.getElem?_cons_succ] at z
    exact z
  have g1 : DataW.trod enc Tryd.prog w 0 (fun _ => true) true n 3 [c1] = some y1 := by
    have z := hg 1 _ rfl
    simp only [cells3, List.drop_zero, List.drop_succ_cons, List.take_succ_cons, List.take_zero, List.getElem?_cons_zero, List.getElem?_cons_succ] at z
    exact z
  clear hg
  obtain ⟨a_0, e0, rfl, wa_0⟩ := DataW.trod_string Tryd.underlying9 g0
  simp only [List.cons.injEq, and_true] at e0
  subst e0
  obtain ⟨a_1, e1, rfl, wa_1⟩ := DataW.trod_int Tryd.underlying3 g1
  simp only [List.cons.injEq, and_true] at e1
  subst e1
  exact ⟨a_0, a_1, rfl, by simp only [List.map_cons, List.map_nil], wa_0, wa_1⟩
theorem met (os : Os) (args : Array Value) : laidMetH Tryd.prog Rows.callDistinctRow.laid ((World.laidAll Tryd.prog os Rows.callDistinctRow.laid).forCall (fun _ _ => 0) ⟨#[], args, []⟩).memory :=
  (show laidMet Tryd.prog Rows.callDistinctRow.laid _ from laidMet_laidAll _ (by kernel_rfl) (by kernel_rfl))
set_option maxRecDepth 100000 in
theorem lifted (os : Os) (started : os.Started) (H : Type) (enc : TypeId × Value → H) :
    ReturnsInHanded {} Tryd.checked os 9 .any (fun w args => (Rows.callDistinctSpec.pre enc Tryd.prog Tryd.f9 Rows.callDistinctRow.domain false w args ∧ laidMetH Tryd.prog Rows.callDistinctRow.laid w) ∧ sizedMet enc Tryd.prog Tryd.f9 (OpenSpec.ofChange Rows.callDistinctSpec) false w args) (Rows.callDistinctSpec.post enc Tryd.prog Tryd.f9 false true false false) := by
  refine QAll.returns_laid_shaped (C := Tryd.checked) own started (by kernel_rfl) Tryd.func9
    (ChangeSpec.witness_at (enc := enc) (C := Tryd.checked) (os := os) (X := fun w _ => laidMetH Tryd.prog Rows.callDistinctRow.laid w) false (World.laidAll Tryd.prog os Rows.callDistinctRow.laid) #[.slice none 0 0] 8 (World.laidAll_os _ _ _) (by kernel_rfl) (by kernel_rfl) (by kernel_rfl) (by kernel_rfl) (by kernel_rfl) (met os _)) ?_
  intro W base args ds gs before hval0 hW hcnd hsz0 hL hsh
  have hE : QAll.EnvW W := QAll.env_of_laid hsh (show laidMet Tryd.prog Rows.callDistinctRow.laid W from hL) (by simp [Rows.callDistinctRow]) (by simp [Rows.callDistinctRow]) (by simp [Rows.callDistinctRow])
  have hsz : (DataW.weightsEach Tryd.prog (Tryd.f9.params.toList ++ Rows.callDistinctSpec.plain.varTypes Tryd.prog) (ds ++ gs)).all (· ≤ reachBytes) = true := hsz0
  have hval : ∀ (j : Nat) t v, Tryd.f9.params[j]? = some t → args[j]? = some v → Value.okWide Tryd.prog W .any base t v := hval0
  have hW' := hW
  obtain ⟨p, q, hA0, hV, rfl, hfz, hnd⟩ := hW
  have hA : DataW.TrodAll enc Tryd.prog W 0 (fun _ => true) true Tryd.f9.params.toList args.toList ds p := hA0
  rw [Tryd.params9] at hA hval hsz
  obtain ⟨v0, vs0, d0, ds0, p0, q0, hargs, rfl, rfl, h0, r0⟩ := trodAll_cons hA
  obtain ⟨rfl, rfl, rfl⟩ := trodAll_nil r0
  obtain rfl : args = #[v0] := by cases args; simp_all
  obtain ⟨rfl, rfl⟩ := trodVars_none hV
  have k0 := h0
  have lt0 : ∀ x ∈ p0, x.block < W.heap.size := by obtain ⟨m, hm⟩ := k0; exact DataW.trod_lt m _ _ _ hm
  obtain ⟨av0, al0, ac0, rfl⟩ := okWide_slice Tryd.underlying45 (hval 0 45 v0 rfl rfl)
  obtain ⟨fu0, hf0⟩ := h0
  obtain ⟨Aa0, ca0, a0, e0, wa0⟩ := QAll.rows_of_trod QAll.k23 Tryd.underlying45 cells23 (fun d => d.f0.size ≤ maxLen ∧ (Lit.int .i64 d.f1).wf = true) (fun n cs' z hz => by
    obtain ⟨b_0, b_1, rfl, -, wb_0, wb_1⟩ := open23 hz
    exact ⟨(⟨b_0, b_1⟩ : QAll.S23), QAll.k23_mk W _, rfl, wb_0, wb_1⟩) hf0
  replace e0 : Value.slice Aa0 a0.length ca0 = .slice av0 al0 ac0 := by simpa [Value.cells] using (show Value.slice av0 al0 ac0 = .slice Aa0 a0.length ca0 by simpa [Value.cells] using e0).symm
  simp only [Value.slice.injEq] at e0
  obtain ⟨rfl, rfl, rfl⟩ := e0
  clear hA0 hval0 hsz0 hsz
  obtain ⟨k, hp⟩ := Pure.CallDistinct a0 wa0.2.2
  refine (QAll.squelchlaw04_CallDistinct.calls k Aa0 ca0 a0 true W hE rfl wa0.1 wa0.2.1 hp).mono fun e W' ⟨he, bel⟩ => ?_
  subst he
  exact ⟨_, rfl, _, _, _, [], _, [], hW', trodAll_mk1 (shut_bool Tryd.underlying4 _), (trodAll_cons_mk (Below.trod laidOut (by kernel_rfl) (of_decide_eq_true (by kernel_rfl)) k0 bel lt0) trodAll_mk0), rfl, bel.frame _, fun h => by cases h⟩
theorem over : Rows.callDistinctRow.holds Tryd.pinned (OpenSpec.ofChange Rows.callDistinctSpec) :=
  OpenClaim.holds_of_wide 9 Tryd.f9 rfl rfl rfl rfl rfl rfl rfl ⟨rfl, rfl, rfl, rfl, rfl⟩ rfl rfl rfl rfl rfl (by kernel_rfl) Tryd.func9 (by kernel_rfl)
    (of_decide_eq_true (by kernel_rfl)) (by unfold Func.isWrapper; first | (rw [if_pos (by decide +kernel)]; kernel_rfl) | (rw [if_neg (by decide +kernel)]; exact ⟨rfl, rfl⟩))
    (fun os started H enc _ => lifted os started H enc)
theorem card : Rows.CallDistinctCardSaid :=
  Claim7.holds_tied_plain_at .later [] [.data, .data, .data, .sentinel, .sentinel] true (true, "b63f2f92baa42f5091e235388c6ae0d54991875acb84ccae606eb7f7e9e6d94e") true
    over (fun _ h => by cases h) (by kernel_rfl) (fun _ h => by cases h) callDistinct_row_tie rfl ⟨rfl, rfl⟩ (by kernel_rfl) rfl
    (fun f fn hf hfn => by
      obtain rfl : f = 9 := Option.some.inj ((show Tryd.prog.funcNamed "squelch/squelchlaw04.CallDistinct" = some 9 by kernel_rfl).symm.trans hf) |>.symm
      obtain rfl : fn = Tryd.f9 := (Option.some.inj (Tryd.func9.symm.trans hfn)).symm
      exact ⟨by kernel_rfl, fun j t ht => by
        rw [Tryd.params9] at ht
        have hm := Array.mem_of_getElem? ht
        simp at hm
        rcases hm with rfl
        · exact (show Tryd.prog.wantsStandIn 45 = false by kernel_rfl)
      ⟩)
    (by kernel_rfl)
end Go.Proofs.YtpmieapgbdbabaaDoor.callDistinctRow
namespace Go.Proofs.YtpmieapgbdbabaaDoor
theorem callDistinct_holds : Rows.CallDistinctCardSaid := callDistinctRow.card
#print axioms callDistinct_holds
end Go.Proofs.YtpmieapgbdbabaaDoor
end
