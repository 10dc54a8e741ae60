/- The row of the law XidParses, out of its walks and its plain law. -/
import Derived.Test.YtpmieapgbdbabaaDoorMXidParses1
import Derived.Test.YtpmieapgbdbabaaDoorMXidParses0
import Derived.Lib.IndexLaws
import Derived.KernelRfl
import Derived.Test.YtpmieapgbdbabaaDoorRows
import Derived.Lib.LaidU8
import Derived.Lay
import Derived.Handed
import Derived.SizedLaws
import Derived.LaidLaws
import Derived.Shelf.Vars
import Derived.LaidHandle
import Derived.Stop.Joined
import Derived.Test.YtpmieapgbdbabaaDoorTie
import Derived.Test.YtpmieapgbdbabaaDoorCards
import Derived.WalkKit
import Derived.ProofKit
import Derived.OpenShut
import Derived.ShutString
import Derived.ChangeOld
import Derived.Below
import Derived.Lib.SmallJoins
import Derived.Deep.Slices
import Derived.Deep.Fields
import Derived.ChangeSame
section
/- xid.Text, walked by hand: the words of right parameters, or none. -/
set_option linter.unusedVariables false
set_option linter.unusedSimpArgs false
namespace Go.Proofs.YtpmieapgbdbabaaDoor.QAll
open Go.RowKit Go.Shelf Go.Proofs.YtpmieapgbdbabaaDoorW.PrintWords Go.Proofs.YtpmieapgbdbabaaDoorW.PrintLast Go.Proofs.YtpmieapgbdbabaaDoorW.PrintMore

/-- Which field a parameter's word names. -/
def nameIdx (s : ByteArray) : Option Nat := if s = ⟨#[78, 49]⟩ then some 2 else if s = ⟨#[75]⟩ then some 3 else if s = ⟨#[84, 49]⟩ then some 4 else if s = ⟨#[78, 50]⟩ then some 5 else none
theorem ba_ne {s : ByteArray} {l : List UInt8} (h : s ≠ ⟨l.toArray⟩) : (s.toList == l) = false := by
  rw [beq_eq_false_iff_ne]
  intro e
  apply h
  rw [Go.ByteArray.toList_eq] at e
  obtain ⟨a⟩ := s
  congr 1
  exact Array.ext' e
set_option maxRecDepth 100000 in
theorem named_any (g : Nat) (nm : ByteArray) (w : World) : Calls Tryd.prog 76 #[.pointer (some ⟨g, 0, none⟩), .string nm] w fun e w' => e = .returned (.pointer ((nameIdx nm).map fun i => (⟨g, i, none⟩ : Addr))) ∧ w = w' := by
  have hu72 := Tryd.underlying72
  unfold nameIdx
  by_cases h1 : nm = ⟨#[78, 49]⟩
  · subst h1
    rw [if_pos rfl]
    go_enter Tryd.func76, Tryd.ntmps76
    go_wp2
    go_ret
    exact ⟨rfl, rfl⟩
  rw [if_neg h1]
  by_cases h2 : nm = ⟨#[75]⟩
  · subst h2
    rw [if_pos rfl]
    go_enter Tryd.func76, Tryd.ntmps76
    go_wp2
    go_ret
    exact ⟨rfl, rfl⟩
  rw [if_neg h2]
  by_cases h3 : nm = ⟨#[84, 49]⟩
  · subst h3
    rw [if_pos rfl]
    go_enter Tryd.func76, Tryd.ntmps76
    go_wp2
    go_ret
    exact ⟨rfl, rfl⟩
  rw [if_neg h3]
  by_cases h4 : nm = ⟨#[78, 50]⟩
  · subst h4
    rw [if_pos rfl]
    go_enter Tryd.func76, Tryd.ntmps76
    go_wp2
    go_ret
    exact ⟨rfl, rfl⟩
  rw [if_neg h4]
  have c1 := ba_ne (l := [78, 49]) h1
  have c2 := ba_ne (l := [75]) h2
  have c3 := ba_ne (l := [84, 49]) h3
  have c4 := ba_ne (l := [78, 50]) h4
  clear h1 h2 h3 h4
  go_enter Tryd.func76, Tryd.ntmps76
  go_wp2
  go_ret
  exact ⟨rfl, rfl⟩
theorem named_at0 (g : Nat) (w : World) : Calls Tryd.prog 76 #[.pointer (some ⟨g, 0, none⟩), .string ⟨#[78, 49]⟩] w fun e w' => e = .returned (.pointer (some ⟨g, 2, none⟩)) ∧ w = w' := named_any g ⟨#[78, 49]⟩ w
theorem named_at1 (g : Nat) (w : World) : Calls Tryd.prog 76 #[.pointer (some ⟨g, 0, none⟩), .string ⟨#[75]⟩] w fun e w' => e = .returned (.pointer (some ⟨g, 3, none⟩)) ∧ w = w' := named_any g ⟨#[75]⟩ w
theorem named_at2 (g : Nat) (w : World) : Calls Tryd.prog 76 #[.pointer (some ⟨g, 0, none⟩), .string ⟨#[84, 49]⟩] w fun e w' => e = .returned (.pointer (some ⟨g, 4, none⟩)) ∧ w = w' := named_any g ⟨#[84, 49]⟩ w
theorem named_at3 (g : Nat) (w : World) : Calls Tryd.prog 76 #[.pointer (some ⟨g, 0, none⟩), .string ⟨#[78, 50]⟩] w fun e w' => e = .returned (.pointer (some ⟨g, 5, none⟩)) ∧ w = w' := named_any g ⟨#[78, 50]⟩ w
/-- The words ahead of the numbers. -/
def xw0 (wd sr : Bool) : List ByteArray := (if wd = true then [⟨#[87, 73, 68, 69]⟩] else []) ++ (if sr = true then [⟨#[83, 82, 69, 74]⟩] else [])
def xname : Nat → ByteArray
  | 0 => ⟨#[78, 49]⟩
  | 1 => ⟨#[75]⟩
  | 2 => ⟨#[84, 49]⟩
  | _ => ⟨#[78, 50]⟩
def xval (n k t m : Int) : Nat → Int
  | 0 => n
  | 1 => k
  | 2 => t
  | _ => m
def xnum (n k t m : Int) (i : Nat) : ByteArray := (xname i ++ (⟨#[61]⟩ : ByteArray)) ++ itoaB (xval n k t m i)
def xnums (n k t m : Int) (i : Nat) : List ByteArray := (List.range i).map (xnum n k t m)
theorem xnums_succ (n k t m : Int) (i : Nat) : xnums n k t m (i + 1) = xnums n k t m i ++ [xnum n k t m i] := by simp [xnums, List.range_succ]
def xwords (wd sr : Bool) (n k t m : Int) : List ByteArray := xw0 wd sr ++ xnums n k t m 4
def xtext (wd sr : Bool) (n k t m : Int) : ByteArray := joinS (xwords wd sr n k t m) ⟨#[32]⟩
def xid_Text.f (a0_0 a0_1 : Bool) (a0_2 a0_3 a0_4 a0_5 : Int) : Option ByteArray := (xid_Right.f a0_0 a0_1 a0_2 a0_3 a0_4 a0_5).bind fun ok => if ok = true then some (xtext a0_0 a0_1 a0_2 a0_3 a0_4 a0_5) else some ⟨#[]⟩
def xmost (wd sr : Bool) : Int := if wd = true then (if sr = true then 32 else 63) else (if sr = true then 4 else 7)
theorem xin_eq (a lo hi : Int) : xid_in.f a lo hi = some (decide (lo ≤ a ∧ a ≤ hi)) := by
  unfold xid_in.f
  by_cases h1 : lo ≤ a
  · rw [if_pos h1]; simp [h1]
  · rw [if_neg h1]; simp [h1]
theorem xmost_eq (wd sr : Bool) : xid_Most.f wd sr = some (xmost wd sr) := by cases wd <;> cases sr <;> rfl
def xrB (wd sr : Bool) (n k t m : Int) : Bool := decide (16 ≤ n ∧ n ≤ 256) && (decide (1 ≤ k ∧ k ≤ xmost wd sr) && (decide (4 ≤ t ∧ t ≤ 255) && decide (1 ≤ m ∧ m ≤ 15)))
theorem xright_eq (wd sr : Bool) (n k t m : Int) : xid_Right.f wd sr n k t m = some (xrB wd sr n k t m) := by
  unfold xid_Right.f xrB
  rw [xmost_eq, xin_eq, xin_eq, xin_eq]
  simp only [Option.bind_some, xin_eq]
  cases decide (16 ≤ n ∧ n ≤ 256) <;> cases decide (1 ≤ k ∧ k ≤ xmost wd sr) <;> cases decide (4 ≤ t ∧ t ≤ 255) <;> simp
theorem xmost_le (wd sr : Bool) : 4 ≤ xmost wd sr ∧ xmost wd sr ≤ 63 := by cases wd <;> cases sr <;> decide
theorem xright_bounds {wd sr : Bool} {n k t m : Int} (h : xid_Right.f wd sr n k t m = some true) : 16 ≤ n ∧ n ≤ 256 ∧ 1 ≤ k ∧ k ≤ 63 ∧ 4 ≤ t ∧ t ≤ 255 ∧ 1 ≤ m ∧ m ≤ 15 := by
  rw [xright_eq] at h
  have h := Option.some.inj h
  unfold xrB at h
  simp only [Bool.and_eq_true, decide_eq_true_eq] at h
  have := xmost_le wd sr
  omega
theorem itoa_len_all : ((List.range 1000).all fun a => decide ((Lib.itoa (a : Int)).length ≤ 3)) = true := by kernel_rfl
theorem itoa_len3 (n : Int) (h0 : 0 ≤ n) (h1 : n ≤ 999) : (Lib.itoa n).length ≤ 3 := by
  obtain ⟨a, rfl⟩ := Int.eq_ofNat_of_zero_le h0
  exact of_decide_eq_true (List.all_eq_true.1 itoa_len_all a (List.mem_range.2 (by omega)))
theorem itoaB_size (n : Int) : (itoaB n).size = (Lib.itoa n).length := List.size_toArray
theorem itoaB_len (n : Int) (h0 : 0 ≤ n) (h1 : n ≤ 999) : (itoaB n).size ≤ 3 := by rw [itoaB_size]; exact itoa_len3 n h0 h1
theorem itoaB_list (n : Int) : (itoaB n).data.toList = Lib.itoa n := rfl
theorem join_len (n k t m : Int) (wd sr : Bool) (h : xid_Right.f wd sr n k t m = some true) : (joinL (xwords wd sr n k t m) ⟨#[32]⟩).length ≤ 100 := by
  have hb := xright_bounds h
  have h1 := itoa_len3 n (by omega) (by omega)
  have h2 := itoa_len3 k (by omega) (by omega)
  have h3 := itoa_len3 t (by omega) (by omega)
  have h4 := itoa_len3 m (by omega) (by omega)
  generalize hn : Lib.itoa n = ln at h1
  generalize hk : Lib.itoa k = lk at h2
  generalize ht : Lib.itoa t = lt at h3
  generalize hm : Lib.itoa m = lm at h4
  cases wd <;> cases sr <;> simp [joinL, xwords, xw0, xnums, List.range_succ, xnum, xname, xval, Lib.join_cons, Lib.joinTail, itoaB_list, hn, hk, ht, hm] <;> omega
theorem join_f (n k t m : Int) (wd sr : Bool) (h : xid_Right.f wd sr n k t m = some true) : strings_Join.f (xwords wd sr n k t m) ⟨#[32]⟩ = some (xtext wd sr n k t m) := by
  have hj := join_len n k t m wd sr h
  have hl : 4 ≤ (xwords wd sr n k t m).length ∧ (xwords wd sr n k t m).length ≤ 6 := by cases wd <;> cases sr <;> simp [xwords, xw0, xnums]
  unfold strings_Join.f
  rw [if_pos ⟨by omega, by omega, by omega⟩]
  rfl
theorem six_cell {w : World} {g : Nat} {a0 a1 a2 a3 a4 a5 : Value} {t : TypeId} (h : w.heap[g]? = some (.cells #[a0, a1, a2, a3, a4, a5] t (0, 0))) :
    (w.cell? ⟨g, 0, none⟩ = some a0 ∧ w.cell? ⟨g, 1, none⟩ = some a1 ∧ w.cell? ⟨g, 2, none⟩ = some a2 ∧ w.cell? ⟨g, 3, none⟩ = some a3 ∧ w.cell? ⟨g, 4, none⟩ = some a4 ∧ w.cell? ⟨g, 5, none⟩ = some a5) ∧
    (w.frozen? ⟨g, 0, none⟩ = false ∧ w.frozen? ⟨g, 1, none⟩ = false ∧ w.frozen? ⟨g, 2, none⟩ = false ∧ w.frozen? ⟨g, 3, none⟩ = false ∧ w.frozen? ⟨g, 4, none⟩ = false ∧ w.frozen? ⟨g, 5, none⟩ = false) := by
  simp [World.cell?, World.frozen?, h]
theorem four_cell {w : World} {g : Nat} {a0 a1 a2 a3 : Value} {t : TypeId} (h : w.heap[g]? = some (.cells #[a0, a1, a2, a3] t (0, 0))) :
    w.cell? ⟨g, 0, none⟩ = some a0 ∧ w.cell? ⟨g, 1, none⟩ = some a1 ∧ w.cell? ⟨g, 2, none⟩ = some a2 ∧ w.cell? ⟨g, 3, none⟩ = some a3 := by
  simp [World.cell?, h]
theorem lt_of_blk9 {W : World} {g : Nat} {o : Obj} (h : W.heap[g]? = some o) : g < W.heap.size := (Array.getElem?_eq_some_iff.1 h).1
/-- A row of strings of the call's own is not a block of another type. -/
theorem strs_ne {W : World} {base g : Nat} {ok : Nat → Prop} {v : Value} {xs : List ByteArray} {cs : Array Value} {ty : TypeId} {f : Nat × Nat} (h : Kd.R Kd.string 9 W base ok v xs) (hg : W.heap[g]? = some (.cells cs ty f)) (ht : ty ≠ 9) : some g ≠ v.ownBlock := by
  intro e
  obtain ⟨_, _, _, q, hq, cs', hc⟩ := (Kd.R_bound h).1 g e.symm
  have hq' : q = 9 := by simpa [Kd.string, Kd.scalar] using hq
  subst hq'
  rw [hg] at hc
  simp only [Option.some.injEq, Obj.cells.injEq] at hc
  exact ht hc.2.1
/-- The words so far, the parameters' block, and that nothing older has turned. -/
def TX (w : World) (wd sr : Bool) (n k t m : Int) (W : World) (v : Value) (xs : List ByteArray) : Prop :=
  Kd.R Kd.string 9 W w.heap.size (fun _ => True) v xs ∧ W.heap[w.heap.size]? = some (.cells #[.bool wd, .bool sr, .int .i64 n, .int .i64 k, .int .i64 t, .int .i64 m] 72 (0, 0)) ∧ Below w.heap.size w W
theorem TX_append {w : World} {wd sr : Bool} {n k t m : Int} {W w1 : World} {v v1 : Value} {xs ys : List ByteArray} (h : TX w wd sr n k t m W v xs) (hr : Kd.R Kd.string 9 w1 w.heap.size (fun _ => True) v1 ys) (hb : Below w.heap.size w w1) (hg : W.grownBy w1 v.ownBlock) : TX w wd sr n k t m w1 v1 ys :=
  ⟨hr, (hg.block _ (lt_of_blk9 h.2.1) (strs_ne h.1 h.2.1 (by decide))).trans h.2.1, hb⟩
/-- The same beside the names' block nb. -/
def TY (w : World) (nb : Nat) (wd sr : Bool) (n k t m : Int) (W : World) (v : Value) (xs : List ByteArray) : Prop :=
  Kd.R Kd.string 9 W w.heap.size (fun j => j ≠ nb) v xs ∧ W.heap[w.heap.size]? = some (.cells #[.bool wd, .bool sr, .int .i64 n, .int .i64 k, .int .i64 t, .int .i64 m] 72 (0, 0)) ∧ W.heap[nb]? = some (.cells #[.string ⟨#[78, 49]⟩, .string ⟨#[75]⟩, .string ⟨#[84, 49]⟩, .string ⟨#[78, 50]⟩] 9 (0, 0)) ∧ Below w.heap.size w W
theorem TY_of {w : World} {wd sr : Bool} {n k t m : Int} {W : World} {v : Value} {xs : List ByteArray} (h : TX w wd sr n k t m W v xs) : TY w W.heap.size wd sr n k t m (W.alloc (.cells #[.string ⟨#[78, 49]⟩, .string ⟨#[75]⟩, .string ⟨#[84, 49]⟩, .string ⟨#[78, 50]⟩] 9)) v xs :=
  ⟨Kd.R_alloc (Kd.R_mono (Kd.R_bound h.1) (fun j hj => by have := hj.2.2.1; omega)) _, (Below.heap_alloc W _ _ (lt_of_blk9 h.2.1)).trans h.2.1, heap_alloc_new W _, h.2.2.alloc h.2.2.size _⟩
theorem TY_append {w : World} {nb : Nat} {wd sr : Bool} {n k t m : Int} {W w1 : World} {v v1 : Value} {xs ys : List ByteArray} (h : TY w nb wd sr n k t m W v xs) (hr : Kd.R Kd.string 9 w1 w.heap.size (fun j => j ≠ nb) v1 ys) (hb : Below w.heap.size w w1) (hg : W.grownBy w1 v.ownBlock) : TY w nb wd sr n k t m w1 v1 ys :=
  ⟨hr, (hg.block _ (lt_of_blk9 h.2.1) (strs_ne h.1 h.2.1 (by decide))).trans h.2.1, (hg.block _ (lt_of_blk9 h.2.2.1) (fun e => h.1.1 nb e.symm rfl)).trans h.2.2.1, hb⟩
theorem TY_below {w : World} {nb : Nat} {wd sr : Bool} {n k t m : Int} {W W' : World} {v : Value} {xs : List ByteArray} (h : TY w nb wd sr n k t m W v xs) (hb : Below W.heap.size W W') : TY w nb wd sr n k t m W' v xs :=
  ⟨Kd.R_below h.1 hb, (hb.block _ (lt_of_blk9 h.2.1)).trans h.2.1, (hb.block _ (lt_of_blk9 h.2.2.1)).trans h.2.2.1, below_then h.2.2.2 h.2.2.2.size hb⟩
set_option maxHeartbeats 8000000 in
set_option maxRecDepth 100000 in
theorem xid_Text.calls (a0_0 a0_1 : Bool) (a0_2 a0_3 a0_4 a0_5 : Int) (r : ByteArray) (w : World) (hE_ : EnvW w) (h : xid_Text.f a0_0 a0_1 a0_2 a0_3 a0_4 a0_5 = some r) :
    Calls Tryd.prog 47 #[.agg #[.bool a0_0, .bool a0_1, .int .i64 a0_2, .int .i64 a0_3, .int .i64 a0_4, .int .i64 a0_5]] w fun e w' => e = .returned (.string r) ∧ Below w.heap.size w w' := by
  unfold xid_Text.f at h
  obtain ⟨ok, hok, h⟩ := Option.bind_eq_some_iff.1 h
  have hu72 := Tryd.underlying72
  have hu121 := Tryd.underlying121
  have HE := Aside0.mk hE_
  clear hE_
  cases ok with
  | false =>
    rw [if_neg (by simp)] at h
    obtain rfl := Option.some.inj h
    have HOK := Aside0.mk hok
    clear h hok
    go_enter Tryd.func47, Tryd.ntmps47
    go_wp2_with (fail)
    refine (xid_Right.calls a0_0 a0_1 a0_2 a0_3 a0_4 a0_5 false _ HOK.out).mono ?_
    rintro e w2 ⟨rfl, hb⟩
    have HB := Aside0.mk (below_then ((Below.refl w.heap.size w).alloc (Nat.le_refl _) _) (by simp) hb)
    clear hb
    go_wp2_with (fail)
    go_ret
    exact ⟨rfl, HB.out⟩
  | true =>
    rw [if_pos rfl] at h
    obtain rfl := Option.some.inj h
    have HBD := Aside0.mk (xright_bounds hok)
    have HJ := Aside0.mk (join_len _ _ _ _ _ _ hok)
    have HJF := Aside0.mk (join_f _ _ _ _ _ _ hok)
    have HOK := Aside0.mk hok
    clear h hok HJ
    go_enter Tryd.func47, Tryd.ntmps47
    go_wp2_with (fail)
    refine (xid_Right.calls a0_0 a0_1 a0_2 a0_3 a0_4 a0_5 true _ HOK.out).mono ?_
    rintro e w2 ⟨rfl, hb⟩
    have HT := Aside0.mk (show TX w a0_0 a0_1 a0_2 a0_3 a0_4 a0_5 w2 (.slice none 0 0) [] from ⟨Kd.R_nil _ _ _ _ _, (hb.block _ (by simp)).trans (heap_alloc_new w _), below_then ((Below.refl w.heap.size w).alloc (Nat.le_refl _) _) (by simp) hb⟩)
    clear hb HOK
    cases a0_0 <;> cases a0_1
    all_goals
      obtain ⟨⟨q0, q1, q2, q3, q4, q5⟩, _⟩ := six_cell HT.out.2.1
      go_wp2_with (first | (at_builtin; refine Kd.R_append Kd.string (w0 := w) w.heap.size rfl (.tmp 11) (.tmp 12) 121 9 (.string ⟨#[]⟩) 16 rfl Tryd.underlying121 info9 rfl (by decide) (by omega) _ [] (⟨#[87, 73, 68, 69]⟩ : ByteArray) [.string (⟨#[87, 73, 68, 69]⟩ : ByteArray)] (fun _ => True) (fun _ => False) rfl rfl rfl (fun _ hk => hk.elim) (fun _ _ => trivial) HT.out.1 HT.out.2.2 HT.out.2.2.size (by simp) ?_; intro v1 w5 ho hb hg hat; have HT1 := Aside0.mk (TX_append HT.out ho hb hg); clear HT ho hb hg hat q0 q1 q2 q3 q4 q5; have HT := HT1; clear HT1; obtain ⟨⟨q0, q1, q2, q3, q4, q5⟩, _⟩ := six_cell HT.out.2.1) | (at_builtin; refine Kd.R_append Kd.string (w0 := w) w.heap.size rfl (.tmp 16) (.tmp 17) 121 9 (.string ⟨#[]⟩) 16 rfl Tryd.underlying121 info9 rfl (by decide) (by omega) _ _ (⟨#[83, 82, 69, 74]⟩ : ByteArray) [.string (⟨#[83, 82, 69, 74]⟩ : ByteArray)] (fun _ => True) (fun _ => False) rfl rfl rfl (fun _ hk => hk.elim) (fun _ _ => trivial) HT.out.1 HT.out.2.2 HT.out.2.2.size (by simp) ?_; intro v2 w6 ho hb hg hat; have HT1 := Aside0.mk (TX_append HT.out ho hb hg); clear HT ho hb hg hat q0 q1 q2 q3 q4 q5; have HT := HT1; clear HT1; obtain ⟨⟨q0, q1, q2, q3, q4, q5⟩, _⟩ := six_cell HT.out.2.1))
      have HT3 := Aside0.mk (TY_of HT.out)
      generalize hW : World.alloc _ _ = wN at HT3 ⊢
      clear hW HT q0 q1 q2 q3 q4 q5
    · go_loopw [3, 5, 21] (fun v3 v5 v21 wr => ∃ i : Nat, i ≤ 4 ∧ v21 = .int .i64 (i : Int) ∧ Aside0 (TY w w2.heap.size false false a0_2 a0_3 a0_4 a0_5 wr v3 (xw0 false false ++ xnums a0_2 a0_3 a0_4 a0_5 i))) (fun v3 v5 v21 _ => 4 - (intOf v21).toNat)
      case atStart =>
        exact ⟨0, by omega, rfl, HT3⟩
      case round =>
        clear HT3
        obtain ⟨i, hi, rfl, HTY⟩ := hrel
        by_cases hlt : i < 4
        · obtain ⟨⟨q0, q1, q2, q3, q4, q5⟩, _⟩ := six_cell HTY.out.2.1
          obtain ⟨y0, y1, y2, y3⟩ := four_cell HTY.out.2.2.1
          have hb16 : (Aside0 (EnvW wr)) := ⟨HE.out.below HTY.out.2.2.2⟩
          have hi4 : i = 0 ∨ i = 1 ∨ i = 2 ∨ i = 3 := by omega
          clear hi hlt
          rcases hi4 with rfl | rfl | rfl | rfl
          · have hsz := itoaB_len a0_2 (by have := HBD.out; omega) (by have := HBD.out; omega)
            have HL := Aside0.mk (show (xw0 false false ++ xnums a0_2 a0_3 a0_4 a0_5 0).length ≤ 8 by simp [xw0, xnums])
            go_wp2_with (first | (go_at_call 76; refine (named_at0 w.heap.size _).mono ?_; rintro e w' ⟨rfl, rfl⟩) | (go_at_call 69; refine (itoa_any a0_2 (by have := HBD.out; omega) (by have := HBD.out; omega) _ hb16.out).mono ?_; rintro e w' ⟨rfl, hb⟩; have HT1 := Aside0.mk (TY_below HTY.out hb); clear HTY hb q0 q1 q2 q3 q4 q5 y0 y1 y2 y3; have HTY := HT1; clear HT1) | (at_builtin; refine Kd.R_append Kd.string (w0 := w) w.heap.size rfl (.tmp 25) (.tmp 34) 121 9 (.string ⟨#[]⟩) 16 rfl Tryd.underlying121 info9 rfl (by decide) (by omega) _ (xw0 false false ++ xnums a0_2 a0_3 a0_4 a0_5 0) (xnum a0_2 a0_3 a0_4 a0_5 0) [.string (xnum a0_2 a0_3 a0_4 a0_5 0)] (fun j => j ≠ w2.heap.size) (fun _ => False) rfl rfl rfl (fun _ hk => hk.elim) (fun j hj => by have := lt_of_blk9 HTY.out.2.2.1; omega) HTY.out.1 HTY.out.2.2.2 HTY.out.2.2.2.size (by have := HL.out; omega) ?_; intro v1' w5' ho hb' hg hat; have HT1 := Aside0.mk (TY_append HTY.out ho hb' hg); clear HTY ho hb' hg hat; have HTY := HT1; clear HT1))
            exact ⟨⟨1, by omega, rfl, ⟨by rw [xnums_succ, ← List.append_assoc]; exact HTY.out⟩⟩, by simp [intOf]⟩
          · have hsz := itoaB_len a0_3 (by have := HBD.out; omega) (by have := HBD.out; omega)
            have HL := Aside0.mk (show (xw0 false false ++ xnums a0_2 a0_3 a0_4 a0_5 1).length ≤ 8 by simp [xw0, xnums])
            go_wp2_with (first | (go_at_call 76; refine (named_at1 w.heap.size _).mono ?_; rintro e w' ⟨rfl, rfl⟩) | (go_at_call 69; refine (itoa_any a0_3 (by have := HBD.out; omega) (by have := HBD.out; omega) _ hb16.out).mono ?_; rintro e w' ⟨rfl, hb⟩; have HT1 := Aside0.mk (TY_below HTY.out hb); clear HTY hb q0 q1 q2 q3 q4 q5 y0 y1 y2 y3; have HTY := HT1; clear HT1) | (at_builtin; refine Kd.R_append Kd.string (w0 := w) w.heap.size rfl (.tmp 25) (.tmp 34) 121 9 (.string ⟨#[]⟩) 16 rfl Tryd.underlying121 info9 rfl (by decide) (by omega) _ (xw0 false false ++ xnums a0_2 a0_3 a0_4 a0_5 1) (xnum a0_2 a0_3 a0_4 a0_5 1) [.string (xnum a0_2 a0_3 a0_4 a0_5 1)] (fun j => j ≠ w2.heap.size) (fun _ => False) rfl rfl rfl (fun _ hk => hk.elim) (fun j hj => by have := lt_of_blk9 HTY.out.2.2.1; omega) HTY.out.1 HTY.out.2.2.2 HTY.out.2.2.2.size (by have := HL.out; omega) ?_; intro v1' w5' ho hb' hg hat; have HT1 := Aside0.mk (TY_append HTY.out ho hb' hg); clear HTY ho hb' hg hat; have HTY := HT1; clear HT1))
            exact ⟨⟨2, by omega, rfl, ⟨by rw [xnums_succ, ← List.append_assoc]; exact HTY.out⟩⟩, by simp [intOf]⟩
          · have hsz := itoaB_len a0_4 (by have := HBD.out; omega) (by have := HBD.out; omega)
            have HL := Aside0.mk (show (xw0 false false ++ xnums a0_2 a0_3 a0_4 a0_5 2).length ≤ 8 by simp [xw0, xnums])
            go_wp2_with (first | (go_at_call 76; refine (named_at2 w.heap.size _).mono ?_; rintro e w' ⟨rfl, rfl⟩) | (go_at_call 69; refine (itoa_any a0_4 (by have := HBD.out; omega) (by have := HBD.out; omega) _ hb16.out).mono ?_; rintro e w' ⟨rfl, hb⟩; have HT1 := Aside0.mk (TY_below HTY.out hb); clear HTY hb q0 q1 q2 q3 q4 q5 y0 y1 y2 y3; have HTY := HT1; clear HT1) | (at_builtin; refine Kd.R_append Kd.string (w0 := w) w.heap.size rfl (.tmp 25) (.tmp 34) 121 9 (.string ⟨#[]⟩) 16 rfl Tryd.underlying121 info9 rfl (by decide) (by omega) _ (xw0 false false ++ xnums a0_2 a0_3 a0_4 a0_5 2) (xnum a0_2 a0_3 a0_4 a0_5 2) [.string (xnum a0_2 a0_3 a0_4 a0_5 2)] (fun j => j ≠ w2.heap.size) (fun _ => False) rfl rfl rfl (fun _ hk => hk.elim) (fun j hj => by have := lt_of_blk9 HTY.out.2.2.1; omega) HTY.out.1 HTY.out.2.2.2 HTY.out.2.2.2.size (by have := HL.out; omega) ?_; intro v1' w5' ho hb' hg hat; have HT1 := Aside0.mk (TY_append HTY.out ho hb' hg); clear HTY ho hb' hg hat; have HTY := HT1; clear HT1))
            exact ⟨⟨3, by omega, rfl, ⟨by rw [xnums_succ, ← List.append_assoc]; exact HTY.out⟩⟩, by simp [intOf]⟩
          · have hsz := itoaB_len a0_5 (by have := HBD.out; omega) (by have := HBD.out; omega)
            have HL := Aside0.mk (show (xw0 false false ++ xnums a0_2 a0_3 a0_4 a0_5 3).length ≤ 8 by simp [xw0, xnums])
            go_wp2_with (first | (go_at_call 76; refine (named_at3 w.heap.size _).mono ?_; rintro e w' ⟨rfl, rfl⟩) | (go_at_call 69; refine (itoa_any a0_5 (by have := HBD.out; omega) (by have := HBD.out; omega) _ hb16.out).mono ?_; rintro e w' ⟨rfl, hb⟩; have HT1 := Aside0.mk (TY_below HTY.out hb); clear HTY hb q0 q1 q2 q3 q4 q5 y0 y1 y2 y3; have HTY := HT1; clear HT1) | (at_builtin; refine Kd.R_append Kd.string (w0 := w) w.heap.size rfl (.tmp 25) (.tmp 34) 121 9 (.string ⟨#[]⟩) 16 rfl Tryd.underlying121 info9 rfl (by decide) (by omega) _ (xw0 false false ++ xnums a0_2 a0_3 a0_4 a0_5 3) (xnum a0_2 a0_3 a0_4 a0_5 3) [.string (xnum a0_2 a0_3 a0_4 a0_5 3)] (fun j => j ≠ w2.heap.size) (fun _ => False) rfl rfl rfl (fun _ hk => hk.elim) (fun j hj => by have := lt_of_blk9 HTY.out.2.2.1; omega) HTY.out.1 HTY.out.2.2.2 HTY.out.2.2.2.size (by have := HL.out; omega) ?_; intro v1' w5' ho hb' hg hat; have HT1 := Aside0.mk (TY_append HTY.out ho hb' hg); clear HTY ho hb' hg hat; have HTY := HT1; clear HT1))
            exact ⟨⟨4, by omega, rfl, ⟨by rw [xnums_succ, ← List.append_assoc]; exact HTY.out⟩⟩, by simp [intOf]⟩
        · obtain rfl : i = 4 := by omega
          obtain ⟨A, c, rfl, hle⟩ := Kd.R_reads HTY.out.1
          have HLE := Aside0.mk hle
          have HB := Aside0.mk HTY.out.2.2.2
          clear hle hlt hi
          go_wp2_with (fail)
          refine (strings_Join.calls A c (xwords false false a0_2 a0_3 a0_4 a0_5) ⟨#[32]⟩ _ _ HLE.out.2 HLE.out.1 HJF.out).mono ?_
          rintro e w' ⟨rfl, hb⟩
          go_wp2_with (fail)
          go_ret
          exact ⟨rfl, below_then HB.out HB.out.size hb⟩
    · go_loopw [3, 5, 21] (fun v3 v5 v21 wr => ∃ i : Nat, i ≤ 4 ∧ v21 = .int .i64 (i : Int) ∧ Aside0 (TY w w6.heap.size false true a0_2 a0_3 a0_4 a0_5 wr v3 (xw0 false true ++ xnums a0_2 a0_3 a0_4 a0_5 i))) (fun v3 v5 v21 _ => 4 - (intOf v21).toNat)
      case atStart =>
        exact ⟨0, by omega, rfl, HT3⟩
      case round =>
        clear HT3
        obtain ⟨i, hi, rfl, HTY⟩ := hrel
        by_cases hlt : i < 4
        · obtain ⟨⟨q0, q1, q2, q3, q4, q5⟩, _⟩ := six_cell HTY.out.2.1
          obtain ⟨y0, y1, y2, y3⟩ := four_cell HTY.out.2.2.1
          have hb16 : (Aside0 (EnvW wr)) := ⟨HE.out.below HTY.out.2.2.2⟩
          have hi4 : i = 0 ∨ i = 1 ∨ i = 2 ∨ i = 3 := by omega
          clear hi hlt
          rcases hi4 with rfl | rfl | rfl | rfl
          · have hsz := itoaB_len a0_2 (by have := HBD.out; omega) (by have := HBD.out; omega)
            have HL := Aside0.mk (show (xw0 false true ++ xnums a0_2 a0_3 a0_4 a0_5 0).length ≤ 8 by simp [xw0, xnums])
            go_wp2_with (first | (go_at_call 76; refine (named_at0 w.heap.size _).mono ?_; rintro e w' ⟨rfl, rfl⟩) | (go_at_call 69; refine (itoa_any a0_2 (by have := HBD.out; omega) (by have := HBD.out; omega) _ hb16.out).mono ?_; rintro e w' ⟨rfl, hb⟩; have HT1 := Aside0.mk (TY_below HTY.out hb); clear HTY hb q0 q1 q2 q3 q4 q5 y0 y1 y2 y3; have HTY := HT1; clear HT1) | (at_builtin; refine Kd.R_append Kd.string (w0 := w) w.heap.size rfl (.tmp 25) (.tmp 34) 121 9 (.string ⟨#[]⟩) 16 rfl Tryd.underlying121 info9 rfl (by decide) (by omega) _ (xw0 false true ++ xnums a0_2 a0_3 a0_4 a0_5 0) (xnum a0_2 a0_3 a0_4 a0_5 0) [.string (xnum a0_2 a0_3 a0_4 a0_5 0)] (fun j => j ≠ w6.heap.size) (fun _ => False) rfl rfl rfl (fun _ hk => hk.elim) (fun j hj => by have := lt_of_blk9 HTY.out.2.2.1; omega) HTY.out.1 HTY.out.2.2.2 HTY.out.2.2.2.size (by have := HL.out; omega) ?_; intro v1' w5' ho hb' hg hat; have HT1 := Aside0.mk (TY_append HTY.out ho hb' hg); clear HTY ho hb' hg hat; have HTY := HT1; clear HT1))
            exact ⟨⟨1, by omega, rfl, ⟨by rw [xnums_succ, ← List.append_assoc]; exact HTY.out⟩⟩, by simp [intOf]⟩
          · have hsz := itoaB_len a0_3 (by have := HBD.out; omega) (by have := HBD.out; omega)
            have HL := Aside0.mk (show (xw0 false true ++ xnums a0_2 a0_3 a0_4 a0_5 1).length ≤ 8 by simp [xw0, xnums])
            go_wp2_with (first | (go_at_call 76; refine (named_at1 w.heap.size _).mono ?_; rintro e w' ⟨rfl, rfl⟩) | (go_at_call 69; refine (itoa_any a0_3 (by have := HBD.out; omega) (by have := HBD.out; omega) _ hb16.out).mono ?_; rintro e w' ⟨rfl, hb⟩; have HT1 := Aside0.mk (TY_below HTY.out hb); clear HTY hb q0 q1 q2 q3 q4 q5 y0 y1 y2 y3; have HTY := HT1; clear HT1) | (at_builtin; refine Kd.R_append Kd.string (w0 := w) w.heap.size rfl (.tmp 25) (.tmp 34) 121 9 (.string ⟨#[]⟩) 16 rfl Tryd.underlying121 info9 rfl (by decide) (by omega) _ (xw0 false true ++ xnums a0_2 a0_3 a0_4 a0_5 1) (xnum a0_2 a0_3 a0_4 a0_5 1) [.string (xnum a0_2 a0_3 a0_4 a0_5 1)] (fun j => j ≠ w6.heap.size) (fun _ => False) rfl rfl rfl (fun _ hk => hk.elim) (fun j hj => by have := lt_of_blk9 HTY.out.2.2.1; omega) HTY.out.1 HTY.out.2.2.2 HTY.out.2.2.2.size (by have := HL.out; omega) ?_; intro v1' w5' ho hb' hg hat; have HT1 := Aside0.mk (TY_append HTY.out ho hb' hg); clear HTY ho hb' hg hat; have HTY := HT1; clear HT1))
            exact ⟨⟨2, by omega, rfl, ⟨by rw [xnums_succ, ← List.append_assoc]; exact HTY.out⟩⟩, by simp [intOf]⟩
          · have hsz := itoaB_len a0_4 (by have := HBD.out; omega) (by have := HBD.out; omega)
            have HL := Aside0.mk (show (xw0 false true ++ xnums a0_2 a0_3 a0_4 a0_5 2).length ≤ 8 by simp [xw0, xnums])
            go_wp2_with (first | (go_at_call 76; refine (named_at2 w.heap.size _).mono ?_; rintro e w' ⟨rfl, rfl⟩) | (go_at_call 69; refine (itoa_any a0_4 (by have := HBD.out; omega) (by have := HBD.out; omega) _ hb16.out).mono ?_; rintro e w' ⟨rfl, hb⟩; have HT1 := Aside0.mk (TY_below HTY.out hb); clear HTY hb q0 q1 q2 q3 q4 q5 y0 y1 y2 y3; have HTY := HT1; clear HT1) | (at_builtin; refine Kd.R_append Kd.string (w0 := w) w.heap.size rfl (.tmp 25) (.tmp 34) 121 9 (.string ⟨#[]⟩) 16 rfl Tryd.underlying121 info9 rfl (by decide) (by omega) _ (xw0 false true ++ xnums a0_2 a0_3 a0_4 a0_5 2) (xnum a0_2 a0_3 a0_4 a0_5 2) [.string (xnum a0_2 a0_3 a0_4 a0_5 2)] (fun j => j ≠ w6.heap.size) (fun _ => False) rfl rfl rfl (fun _ hk => hk.elim) (fun j hj => by have := lt_of_blk9 HTY.out.2.2.1; omega) HTY.out.1 HTY.out.2.2.2 HTY.out.2.2.2.size (by have := HL.out; omega) ?_; intro v1' w5' ho hb' hg hat; have HT1 := Aside0.mk (TY_append HTY.out ho hb' hg); clear HTY ho hb' hg hat; have HTY := HT1; clear HT1))
            exact ⟨⟨3, by omega, rfl, ⟨by rw [xnums_succ, ← List.append_assoc]; exact HTY.out⟩⟩, by simp [intOf]⟩
          · have hsz := itoaB_len a0_5 (by have := HBD.out; omega) (by have := HBD.out; omega)
            have HL := Aside0.mk (show (xw0 false true ++ xnums a0_2 a0_3 a0_4 a0_5 3).length ≤ 8 by simp [xw0, xnums])
            go_wp2_with (first | (go_at_call 76; refine (named_at3 w.heap.size _).mono ?_; rintro e w' ⟨rfl, rfl⟩) | (go_at_call 69; refine (itoa_any a0_5 (by have := HBD.out; omega) (by have := HBD.out; omega) _ hb16.out).mono ?_; rintro e w' ⟨rfl, hb⟩; have HT1 := Aside0.mk (TY_below HTY.out hb); clear HTY hb q0 q1 q2 q3 q4 q5 y0 y1 y2 y3; have HTY := HT1; clear HT1) | (at_builtin; refine Kd.R_append Kd.string (w0 := w) w.heap.size rfl (.tmp 25) (.tmp 34) 121 9 (.string ⟨#[]⟩) 16 rfl Tryd.underlying121 info9 rfl (by decide) (by omega) _ (xw0 false true ++ xnums a0_2 a0_3 a0_4 a0_5 3) (xnum a0_2 a0_3 a0_4 a0_5 3) [.string (xnum a0_2 a0_3 a0_4 a0_5 3)] (fun j => j ≠ w6.heap.size) (fun _ => False) rfl rfl rfl (fun _ hk => hk.elim) (fun j hj => by have := lt_of_blk9 HTY.out.2.2.1; omega) HTY.out.1 HTY.out.2.2.2 HTY.out.2.2.2.size (by have := HL.out; omega) ?_; intro v1' w5' ho hb' hg hat; have HT1 := Aside0.mk (TY_append HTY.out ho hb' hg); clear HTY ho hb' hg hat; have HTY := HT1; clear HT1))
            exact ⟨⟨4, by omega, rfl, ⟨by rw [xnums_succ, ← List.append_assoc]; exact HTY.out⟩⟩, by simp [intOf]⟩
        · obtain rfl : i = 4 := by omega
          obtain ⟨A, c, rfl, hle⟩ := Kd.R_reads HTY.out.1
          have HLE := Aside0.mk hle
          have HB := Aside0.mk HTY.out.2.2.2
          clear hle hlt hi
          go_wp2_with (fail)
          refine (strings_Join.calls A c (xwords false true a0_2 a0_3 a0_4 a0_5) ⟨#[32]⟩ _ _ HLE.out.2 HLE.out.1 HJF.out).mono ?_
          rintro e w' ⟨rfl, hb⟩
          go_wp2_with (fail)
          go_ret
          exact ⟨rfl, below_then HB.out HB.out.size hb⟩
    · go_loopw [3, 5, 21] (fun v3 v5 v21 wr => ∃ i : Nat, i ≤ 4 ∧ v21 = .int .i64 (i : Int) ∧ Aside0 (TY w w5.heap.size true false a0_2 a0_3 a0_4 a0_5 wr v3 (xw0 true false ++ xnums a0_2 a0_3 a0_4 a0_5 i))) (fun v3 v5 v21 _ => 4 - (intOf v21).toNat)
      case atStart =>
        exact ⟨0, by omega, rfl, HT3⟩
      case round =>
        clear HT3
        obtain ⟨i, hi, rfl, HTY⟩ := hrel
        by_cases hlt : i < 4
        · obtain ⟨⟨q0, q1, q2, q3, q4, q5⟩, _⟩ := six_cell HTY.out.2.1
          obtain ⟨y0, y1, y2, y3⟩ := four_cell HTY.out.2.2.1
          have hb16 : (Aside0 (EnvW wr)) := ⟨HE.out.below HTY.out.2.2.2⟩
          have hi4 : i = 0 ∨ i = 1 ∨ i = 2 ∨ i = 3 := by omega
          clear hi hlt
          rcases hi4 with rfl | rfl | rfl | rfl
          · have hsz := itoaB_len a0_2 (by have := HBD.out; omega) (by have := HBD.out; omega)
            have HL := Aside0.mk (show (xw0 true false ++ xnums a0_2 a0_3 a0_4 a0_5 0).length ≤ 8 by simp [xw0, xnums])
            go_wp2_with (first | (go_at_call 76; refine (named_at0 w.heap.size _).mono ?_; rintro e w' ⟨rfl, rfl⟩) | (go_at_call 69; refine (itoa_any a0_2 (by have := HBD.out; omega) (by have := HBD.out; omega) _ hb16.out).mono ?_; rintro e w' ⟨rfl, hb⟩; have HT1 := Aside0.mk (TY_below HTY.out hb); clear HTY hb q0 q1 q2 q3 q4 q5 y0 y1 y2 y3; have HTY := HT1; clear HT1) | (at_builtin; refine Kd.R_append Kd.string (w0 := w) w.heap.size rfl (.tmp 25) (.tmp 34) 121 9 (.string ⟨#[]⟩) 16 rfl Tryd.underlying121 info9 rfl (by decide) (by omega) _ (xw0 true false ++ xnums a0_2 a0_3 a0_4 a0_5 0) (xnum a0_2 a0_3 a0_4 a0_5 0) [.string (xnum a0_2 a0_3 a0_4 a0_5 0)] (fun j => j ≠ w5.heap.size) (fun _ => False) rfl rfl rfl (fun _ hk => hk.elim) (fun j hj => by have := lt_of_blk9 HTY.out.2.2.1; omega) HTY.out.1 HTY.out.2.2.2 HTY.out.2.2.2.size (by have := HL.out; omega) ?_; intro v1' w5' ho hb' hg hat; have HT1 := Aside0.mk (TY_append HTY.out ho hb' hg); clear HTY ho hb' hg hat; have HTY := HT1; clear HT1))
            exact ⟨⟨1, by omega, rfl, ⟨by rw [xnums_succ, ← List.append_assoc]; exact HTY.out⟩⟩, by simp [intOf]⟩
          · have hsz := itoaB_len a0_3 (by have := HBD.out; omega) (by have := HBD.out; omega)
            have HL := Aside0.mk (show (xw0 true false ++ xnums a0_2 a0_3 a0_4 a0_5 1).length ≤ 8 by simp [xw0, xnums])
            go_wp2_with (first | (go_at_call 76; refine (named_at1 w.heap.size _).mono ?_; rintro e w' ⟨rfl, rfl⟩) | (go_at_call 69; refine (itoa_any a0_3 (by have := HBD.out; omega) (by have := HBD.out; omega) _ hb16.out).mono ?_; rintro e w' ⟨rfl, hb⟩; have HT1 := Aside0.mk (TY_below HTY.out hb); clear HTY hb q0 q1 q2 q3 q4 q5 y0 y1 y2 y3; have HTY := HT1; clear HT1) | (at_builtin; refine Kd.R_append Kd.string (w0 := w) w.heap.size rfl (.tmp 25) (.tmp 34) 121 9 (.string ⟨#[]⟩) 16 rfl Tryd.underlying121 info9 rfl (by decide) (by omega) _ (xw0 true false ++ xnums a0_2 a0_3 a0_4 a0_5 1) (xnum a0_2 a0_3 a0_4 a0_5 1) [.string (xnum a0_2 a0_3 a0_4 a0_5 1)] (fun j => j ≠ w5.heap.size) (fun _ => False) rfl rfl rfl (fun _ hk => hk.elim) (fun j hj => by have := lt_of_blk9 HTY.out.2.2.1; omega) HTY.out.1 HTY.out.2.2.2 HTY.out.2.2.2.size (by have := HL.out; omega) ?_; intro v1' w5' ho hb' hg hat; have HT1 := Aside0.mk (TY_append HTY.out ho hb' hg); clear HTY ho hb' hg hat; have HTY := HT1; clear HT1))
            exact ⟨⟨2, by omega, rfl, ⟨by rw [xnums_succ, ← List.append_assoc]; exact HTY.out⟩⟩, by simp [intOf]⟩
          · have hsz := itoaB_len a0_4 (by have := HBD.out; omega) (by have := HBD.out; omega)
            have HL := Aside0.mk (show (xw0 true false ++ xnums a0_2 a0_3 a0_4 a0_5 2).length ≤ 8 by simp [xw0, xnums])
            go_wp2_with (first | (go_at_call 76; refine (named_at2 w.heap.size _).mono ?_; rintro e w' ⟨rfl, rfl⟩) | (go_at_call 69; refine (itoa_any a0_4 (by have := HBD.out; omega) (by have := HBD.out; omega) _ hb16.out).mono ?_; rintro e w' ⟨rfl, hb⟩; have HT1 := Aside0.mk (TY_below HTY.out hb); clear HTY hb q0 q1 q2 q3 q4 q5 y0 y1 y2 y3; have HTY := HT1; clear HT1) | (at_builtin; refine Kd.R_append Kd.string (w0 := w) w.heap.size rfl (.tmp 25) (.tmp 34) 121 9 (.string ⟨#[]⟩) 16 rfl Tryd.underlying121 info9 rfl (by decide) (by omega) _ (xw0 true false ++ xnums a0_2 a0_3 a0_4 a0_5 2) (xnum a0_2 a0_3 a0_4 a0_5 2) [.string (xnum a0_2 a0_3 a0_4 a0_5 2)] (fun j => j ≠ w5.heap.size) (fun _ => False) rfl rfl rfl (fun _ hk => hk.elim) (fun j hj => by have := lt_of_blk9 HTY.out.2.2.1; omega) HTY.out.1 HTY.out.2.2.2 HTY.out.2.2.2.size (by have := HL.out; omega) ?_; intro v1' w5' ho hb' hg hat; have HT1 := Aside0.mk (TY_append HTY.out ho hb' hg); clear HTY ho hb' hg hat; have HTY := HT1; clear HT1))
            exact ⟨⟨3, by omega, rfl, ⟨by rw [xnums_succ, ← List.append_assoc]; exact HTY.out⟩⟩, by simp [intOf]⟩
          · have hsz := itoaB_len a0_5 (by have := HBD.out; omega) (by have := HBD.out; omega)
            have HL := Aside0.mk (show (xw0 true false ++ xnums a0_2 a0_3 a0_4 a0_5 3).length ≤ 8 by simp [xw0, xnums])
            go_wp2_with (first | (go_at_call 76; refine (named_at3 w.heap.size _).mono ?_; rintro e w' ⟨rfl, rfl⟩) | (go_at_call 69; refine (itoa_any a0_5 (by have := HBD.out; omega) (by have := HBD.out; omega) _ hb16.out).mono ?_; rintro e w' ⟨rfl, hb⟩; have HT1 := Aside0.mk (TY_below HTY.out hb); clear HTY hb q0 q1 q2 q3 q4 q5 y0 y1 y2 y3; have HTY := HT1; clear HT1) | (at_builtin; refine Kd.R_append Kd.string (w0 := w) w.heap.size rfl (.tmp 25) (.tmp 34) 121 9 (.string ⟨#[]⟩) 16 rfl Tryd.underlying121 info9 rfl (by decide) (by omega) _ (xw0 true false ++ xnums a0_2 a0_3 a0_4 a0_5 3) (xnum a0_2 a0_3 a0_4 a0_5 3) [.string (xnum a0_2 a0_3 a0_4 a0_5 3)] (fun j => j ≠ w5.heap.size) (fun _ => False) rfl rfl rfl (fun _ hk => hk.elim) (fun j hj => by have := lt_of_blk9 HTY.out.2.2.1; omega) HTY.out.1 HTY.out.2.2.2 HTY.out.2.2.2.size (by have := HL.out; omega) ?_; intro v1' w5' ho hb' hg hat; have HT1 := Aside0.mk (TY_append HTY.out ho hb' hg); clear HTY ho hb' hg hat; have HTY := HT1; clear HT1))
            exact ⟨⟨4, by omega, rfl, ⟨by rw [xnums_succ, ← List.append_assoc]; exact HTY.out⟩⟩, by simp [intOf]⟩
        · obtain rfl : i = 4 := by omega
          obtain ⟨A, c, rfl, hle⟩ := Kd.R_reads HTY.out.1
          have HLE := Aside0.mk hle
          have HB := Aside0.mk HTY.out.2.2.2
          clear hle hlt hi
          go_wp2_with (fail)
          refine (strings_Join.calls A c (xwords true false a0_2 a0_3 a0_4 a0_5) ⟨#[32]⟩ _ _ HLE.out.2 HLE.out.1 HJF.out).mono ?_
          rintro e w' ⟨rfl, hb⟩
          go_wp2_with (fail)
          go_ret
          exact ⟨rfl, below_then HB.out HB.out.size hb⟩
    · go_loopw [3, 5, 21] (fun v3 v5 v21 wr => ∃ i : Nat, i ≤ 4 ∧ v21 = .int .i64 (i : Int) ∧ Aside0 (TY w w6.heap.size true true a0_2 a0_3 a0_4 a0_5 wr v3 (xw0 true true ++ xnums a0_2 a0_3 a0_4 a0_5 i))) (fun v3 v5 v21 _ => 4 - (intOf v21).toNat)
      case atStart =>
        exact ⟨0, by omega, rfl, HT3⟩
      case round =>
        clear HT3
        obtain ⟨i, hi, rfl, HTY⟩ := hrel
        by_cases hlt : i < 4
        · obtain ⟨⟨q0, q1, q2, q3, q4, q5⟩, _⟩ := six_cell HTY.out.2.1
          obtain ⟨y0, y1, y2, y3⟩ := four_cell HTY.out.2.2.1
          have hb16 : (Aside0 (EnvW wr)) := ⟨HE.out.below HTY.out.2.2.2⟩
          have hi4 : i = 0 ∨ i = 1 ∨ i = 2 ∨ i = 3 := by omega
          clear hi hlt
          rcases hi4 with rfl | rfl | rfl | rfl
          · have hsz := itoaB_len a0_2 (by have := HBD.out; omega) (by have := HBD.out; omega)
            have HL := Aside0.mk (show (xw0 true true ++ xnums a0_2 a0_3 a0_4 a0_5 0).length ≤ 8 by simp [xw0, xnums])
            go_wp2_with (first | (go_at_call 76; refine (named_at0 w.heap.size _).mono ?_; rintro e w' ⟨rfl, rfl⟩) | (go_at_call 69; refine (itoa_any a0_2 (by have := HBD.out; omega) (by have := HBD.out; omega) _ hb16.out).mono ?_; rintro e w' ⟨rfl, hb⟩; have HT1 := Aside0.mk (TY_below HTY.out hb); clear HTY hb q0 q1 q2 q3 q4 q5 y0 y1 y2 y3; have HTY := HT1; clear HT1) | (at_builtin; refine Kd.R_append Kd.string (w0 := w) w.heap.size rfl (.tmp 25) (.tmp 34) 121 9 (.string ⟨#[]⟩) 16 rfl Tryd.underlying121 info9 rfl (by decide) (by omega) _ (xw0 true true ++ xnums a0_2 a0_3 a0_4 a0_5 0) (xnum a0_2 a0_3 a0_4 a0_5 0) [.string (xnum a0_2 a0_3 a0_4 a0_5 0)] (fun j => j ≠ w6.heap.size) (fun _ => False) rfl rfl rfl (fun _ hk => hk.elim) (fun j hj => by have := lt_of_blk9 HTY.out.2.2.1; omega) HTY.out.1 HTY.out.2.2.2 HTY.out.2.2.2.size (by have := HL.out; omega) ?_; intro v1' w5' ho hb' hg hat; have HT1 := Aside0.mk (TY_append HTY.out ho hb' hg); clear HTY ho hb' hg hat; have HTY := HT1; clear HT1))
            exact ⟨⟨1, by omega, rfl, ⟨by rw [xnums_succ, ← List.append_assoc]; exact HTY.out⟩⟩, by simp [intOf]⟩
          · have hsz := itoaB_len a0_3 (by have := HBD.out; omega) (by have := HBD.out; omega)
            have HL := Aside0.mk (show (xw0 true true ++ xnums a0_2 a0_3 a0_4 a0_5 1).length ≤ 8 by simp [xw0, xnums])
            go_wp2_with (first | (go_at_call 76; refine (named_at1 w.heap.size _).mono ?_; rintro e w' ⟨rfl, rfl⟩) | (go_at_call 69; refine (itoa_any a0_3 (by have := HBD.out; omega) (by have := HBD.out; omega) _ hb16.out).mono ?_; rintro e w' ⟨rfl, hb⟩; have HT1 := Aside0.mk (TY_below HTY.out hb); clear HTY hb q0 q1 q2 q3 q4 q5 y0 y1 y2 y3; have HTY := HT1; clear HT1) | (at_builtin; refine Kd.R_append Kd.string (w0 := w) w.heap.size rfl (.tmp 25) (.tmp 34) 121 9 (.string ⟨#[]⟩) 16 rfl Tryd.underlying121 info9 rfl (by decide) (by omega) _ (xw0 true true ++ xnums a0_2 a0_3 a0_4 a0_5 1) (xnum a0_2 a0_3 a0_4 a0_5 1) [.string (xnum a0_2 a0_3 a0_4 a0_5 1)] (fun j => j ≠ w6.heap.size) (fun _ => False) rfl rfl rfl (fun _ hk => hk.elim) (fun j hj => by have := lt_of_blk9 HTY.out.2.2.1; omega) HTY.out.1 HTY.out.2.2.2 HTY.out.2.2.2.size (by have := HL.out; omega) ?_; intro v1' w5' ho hb' hg hat; have HT1 := Aside0.mk (TY_append HTY.out ho hb' hg); clear HTY ho hb' hg hat; have HTY := HT1; clear HT1))
            exact ⟨⟨2, by omega, rfl, ⟨by rw [xnums_succ, ← List.append_assoc]; exact HTY.out⟩⟩, by simp [intOf]⟩
          · have hsz := itoaB_len a0_4 (by have := HBD.out; omega) (by have := HBD.out; omega)
            have HL := Aside0.mk (show (xw0 true true ++ xnums a0_2 a0_3 a0_4 a0_5 2).length ≤ 8 by simp [xw0, xnums])
            go_wp2_with (first | (go_at_call 76; refine (named_at2 w.heap.size _).mono ?_; rintro e w' ⟨rfl, rfl⟩) | (go_at_call 69; refine (itoa_any a0_4 (by have := HBD.out; omega) (by have := HBD.out; omega) _ hb16.out).mono ?_; rintro e w' ⟨rfl, hb⟩; have HT1 := Aside0.mk (TY_below HTY.out hb); clear HTY hb q0 q1 q2 q3 q4 q5 y0 y1 y2 y3; have HTY := HT1; clear HT1) | (at_builtin; refine Kd.R_append Kd.string (w0 := w) w.heap.size rfl (.tmp 25) (.tmp 34) 121 9 (.string ⟨#[]⟩) 16 rfl Tryd.underlying121 info9 rfl (by decide) (by omega) _ (xw0 true true ++ xnums a0_2 a0_3 a0_4 a0_5 2) (xnum a0_2 a0_3 a0_4 a0_5 2) [.string (xnum a0_2 a0_3 a0_4 a0_5 2)] (fun j => j ≠ w6.heap.size) (fun _ => False) rfl rfl rfl (fun _ hk => hk.elim) (fun j hj => by have := lt_of_blk9 HTY.out.2.2.1; omega) HTY.out.1 HTY.out.2.2.2 HTY.out.2.2.2.size (by have := HL.out; omega) ?_; intro v1' w5' ho hb' hg hat; have HT1 := Aside0.mk (TY_append HTY.out ho hb' hg); clear HTY ho hb' hg hat; have HTY := HT1; clear HT1))
            exact ⟨⟨3, by omega, rfl, ⟨by rw [xnums_succ, ← List.append_assoc]; exact HTY.out⟩⟩, by simp [intOf]⟩
          · have hsz := itoaB_len a0_5 (by have := HBD.out; omega) (by have := HBD.out; omega)
            have HL := Aside0.mk (show (xw0 true true ++ xnums a0_2 a0_3 a0_4 a0_5 3).length ≤ 8 by simp [xw0, xnums])
            go_wp2_with (first | (go_at_call 76; refine (named_at3 w.heap.size _).mono ?_; rintro e w' ⟨rfl, rfl⟩) | (go_at_call 69; refine (itoa_any a0_5 (by have := HBD.out; omega) (by have := HBD.out; omega) _ hb16.out).mono ?_; rintro e w' ⟨rfl, hb⟩; have HT1 := Aside0.mk (TY_below HTY.out hb); clear HTY hb q0 q1 q2 q3 q4 q5 y0 y1 y2 y3; have HTY := HT1; clear HT1) | (at_builtin; refine Kd.R_append Kd.string (w0 := w) w.heap.size rfl (.tmp 25) (.tmp 34) 121 9 (.string ⟨#[]⟩) 16 rfl Tryd.underlying121 info9 rfl (by decide) (by omega) _ (xw0 true true ++ xnums a0_2 a0_3 a0_4 a0_5 3) (xnum a0_2 a0_3 a0_4 a0_5 3) [.string (xnum a0_2 a0_3 a0_4 a0_5 3)] (fun j => j ≠ w6.heap.size) (fun _ => False) rfl rfl rfl (fun _ hk => hk.elim) (fun j hj => by have := lt_of_blk9 HTY.out.2.2.1; omega) HTY.out.1 HTY.out.2.2.2 HTY.out.2.2.2.size (by have := HL.out; omega) ?_; intro v1' w5' ho hb' hg hat; have HT1 := Aside0.mk (TY_append HTY.out ho hb' hg); clear HTY ho hb' hg hat; have HTY := HT1; clear HT1))
            exact ⟨⟨4, by omega, rfl, ⟨by rw [xnums_succ, ← List.append_assoc]; exact HTY.out⟩⟩, by simp [intOf]⟩
        · obtain rfl : i = 4 := by omega
          obtain ⟨A, c, rfl, hle⟩ := Kd.R_reads HTY.out.1
          have HLE := Aside0.mk hle
          have HB := Aside0.mk HTY.out.2.2.2
          clear hle hlt hi
          go_wp2_with (fail)
          refine (strings_Join.calls A c (xwords true true a0_2 a0_3 a0_4 a0_5) ⟨#[32]⟩ _ _ HLE.out.2 HLE.out.1 HJF.out).mono ?_
          rintro e w' ⟨rfl, hb⟩
          go_wp2_with (fail)
          go_ret
          exact ⟨rfl, below_then HB.out HB.out.size hb⟩
end Go.Proofs.YtpmieapgbdbabaaDoor.QAll
end

section
/- strings.Cut at one byte and strings.Split at any text of one byte and more, in the shape that the walks take them. -/
set_option linter.unusedVariables false
set_option linter.unusedSimpArgs false
namespace Go.Proofs.YtpmieapgbdbabaaDoor.QAll
open Go.RowKit Go.Shelf Go.Proofs.YtpmieapgbdbabaaDoorW.PrintWords Go.Proofs.YtpmieapgbdbabaaDoorW.PrintLast Go.Proofs.YtpmieapgbdbabaaDoorW.PrintMore

def oneB (s : ByteArray) : UInt8 := s.data.getD 0 0
theorem oneB_eq (s : ByteArray) (h : s.size = 1) : s = ⟨#[oneB s]⟩ := by
  obtain ⟨a⟩ := s
  have h1 : a.size = 1 := h
  congr 1
  apply Array.ext
  · simpa using h1
  · intro i hi hj
    have : i = 0 := by omega
    subst this
    simp [oneB, hi]
def strings_Cut.f (a0 a1 : ByteArray) : Option (ByteArray × ByteArray × Bool) :=
  if a1.size = 1 ∧ a0.size ≤ 9223372036854775807 then some (cutA a0 (oneB a1), cutB a0 (oneB a1), cutHas a0 (oneB a1)) else none
theorem strings_Cut.calls (a0 a1 : ByteArray) (r1 r2 : ByteArray) (r3 : Bool) (w : World) (h : strings_Cut.f a0 a1 = some (r1, r2, r3)) :
    Calls Tryd.prog 70 #[.string a0, .string a1] w fun e w' => e = .returned (.tuple #[.string r1, .string r2, .bool r3]) ∧ Drawn0 w w' := by
  unfold strings_Cut.f at h
  split at h
  case isFalse => cases h
  rename_i hs
  simp only [Option.some.injEq, Prod.mk.injEq] at h
  obtain ⟨rfl, rfl, rfl⟩ := h
  have := cut_one a0 (oneB a1) w hs.2
  rw [← oneB_eq a1 hs.1] at this
  exact this
def splitS (s sep : ByteArray) : List ByteArray := Lib.splitB sep 0 (Lib.countB s sep) s
def strings_Split.f (a0 a1 : ByteArray) : Option (List ByteArray) := if 1 ≤ a1.size ∧ a0.size ≤ 1000000 then some (splitS a0 a1) else none
theorem strings_Split.calls (a0 a1 : ByteArray) (r : List ByteArray) (w : World) (hE_ : EnvW w) (h : strings_Split.f a0 a1 = some r) :
    Calls Tryd.prog 79 #[.string a0, .string a1] w fun e w' => ∃ v0_ : Value, e = .returned (v0_) ∧ Kd.R Kd.string 9 w' w.heap.size (fun _ => True) v0_ r ∧ Below w.heap.size w w' := by
  unfold strings_Split.f at h
  split at h
  case isFalse => cases h
  rename_i hs
  obtain rfl := Option.some.inj h
  obtain ⟨m, hm⟩ := hE_.mx
  refine (Any.strings_Split { Tryd.laysM146 with } Tryd.laysM146.i9 a0 a1 m w (by omega) hm hs.1).mono ?_
  rintro e w' ⟨rfl, rfl⟩
  have hlen : (splitS a0 a1).length = Lib.countB a0 a1 + 1 := Lib.splitB_all a1 hs.1 0 _ a0 rfl
  have hle := Lib.countB_le a1 hs.1 a0.size a0 (Nat.le_refl _)
  have ho := World.ownsRow_lit (base := w.heap.size) (e := 9) (size := 1) w ((splitS a0 a1).map Value.string).toArray (Lib.countB a0 a1 + 1) (Nat.le_refl _) (by have : maxLen = 9223372036854775807 := rfl; omega) (by simp [hlen])
  refine ⟨_, rfl, ?_, (Below.refl _ _).alloc (Nat.le_refl _) _⟩
  rw [List.toList_toArray, ← hlen] at ho
  rw [← hlen]
  exact Kd.R_of_own ho (fun _ _ => trivial)
end Go.Proofs.YtpmieapgbdbabaaDoor.QAll
end

section
/- Walks, written by a program of this session (wip/pp): a Go function comes to what the Lean function beside it tells. -/
namespace Go.Proofs.YtpmieapgbdbabaaDoor.QAll
open Go.RowKit Go.Proofs.YtpmieapgbdbabaaDoorW.PrintWords Go.Proofs.YtpmieapgbdbabaaDoorW.PrintLast Go.Proofs.YtpmieapgbdbabaaDoorW.PrintMore
attribute [local go_sem] max2_int min2_int max_two min_two max_three min_three max_four min_four
set_option linter.unusedVariables false
set_option linter.unusedSimpArgs false

mutual
def squelchref04_Right.j0 : Nat → Bool → ByteArray → Int → Option (Bool)
 | 0, _, _, _ => none
 | k + 1, x24, x325000, x325001 => if x24 = true then (some false) else (squelchref04_Right.l0 k 0 x325000 x325001)
def squelchref04_Right.l0 : Nat → Int → ByteArray → Int → Option (Bool)
 | 0, _, _, _ => none
 | k + 1, x3, x325000, x325001 => if x3 < (x325000.size : Int) then (if 0 ≤ x3 then (if (bt x325000 x3) ≥ 65 then (if (bt x325000 x3) ≤ 90 then (squelchref04_Right.l0 k (wrap64 (x3 + 1)) x325000 x325001) else (if (bt x325000 x3) ≥ 48 then (if ((bt x325000 x3) ≤ 57) then (squelchref04_Right.l0 k (wrap64 (x3 + 1)) x325000 x325001) else (some false)) else (some false))) else (if (bt x325000 x3) ≥ 48 then (if ((bt x325000 x3) ≤ 57) then (squelchref04_Right.l0 k (wrap64 (x3 + 1)) x325000 x325001) else (some false)) else (some false))) else (none)) else (some true)
end
def squelchref04_Right.f (k : Nat) (a0_0 : ByteArray) (a0_1 : Int) : Option (Bool) := if (a0_0.size : Int) < 1 then (squelchref04_Right.j0 k true a0_0 a0_1) else (if (a0_0.size : Int) > 6 then (squelchref04_Right.j0 k true a0_0 a0_1) else (if a0_1 < 0 then (squelchref04_Right.j0 k true a0_0 a0_1) else (squelchref04_Right.j0 k (decide (a0_1 > 15)) a0_0 a0_1)))
end Go.Proofs.YtpmieapgbdbabaaDoor.QAll
end

section
/- Walks, written by a program of this session (wip/pp): a Go function comes to what the Lean function beside it tells. -/
namespace Go.Proofs.YtpmieapgbdbabaaDoor.QAll
open Go.RowKit Go.Proofs.YtpmieapgbdbabaaDoorW.PrintWords Go.Proofs.YtpmieapgbdbabaaDoorW.PrintLast Go.Proofs.YtpmieapgbdbabaaDoorW.PrintMore
attribute [local go_sem] max2_int min2_int max_two min_two max_three min_three max_four min_four
set_option linter.unusedVariables false
set_option linter.unusedSimpArgs false

def squelchref04_Digits.f (a0 : Int) : Option (ByteArray) := if a0 < 10 then (if 0 ≤ a0 then (if a0 ≤ (wrap64 (a0 + 1)) then (if (wrap64 (a0 + 1)) ≤ 10 then (some ((⟨#[48, 49, 50, 51, 52, 53, 54, 55, 56, 57]⟩ : ByteArray).extract (a0 : Int).toNat ((wrap64 (a0 + 1)) : Int).toNat)) else (none)) else (none)) else (none)) else (if 0 ≤ (wrap64 (Int.tdiv a0 10)) then (if (wrap64 (Int.tdiv a0 10)) ≤ (wrap64 ((wrap64 (Int.tdiv a0 10)) + 1)) then (if (wrap64 ((wrap64 (Int.tdiv a0 10)) + 1)) ≤ 10 then (if 0 ≤ (Int.tmod a0 10) then (if (Int.tmod a0 10) ≤ (wrap64 ((Int.tmod a0 10) + 1)) then (if (wrap64 ((Int.tmod a0 10) + 1)) ≤ 10 then (if ((⟨#[48, 49, 50, 51, 52, 53, 54, 55, 56, 57]⟩ : ByteArray).extract ((wrap64 (Int.tdiv a0 10)) : Int).toNat ((wrap64 ((wrap64 (Int.tdiv a0 10)) + 1)) : Int).toNat).size + ((⟨#[48, 49, 50, 51, 52, 53, 54, 55, 56, 57]⟩ : ByteArray).extract ((Int.tmod a0 10) : Int).toNat ((wrap64 ((Int.tmod a0 10) + 1)) : Int).toNat).size ≤ 9223372036854775807 then (some (((⟨#[48, 49, 50, 51, 52, 53, 54, 55, 56, 57]⟩ : ByteArray).extract ((wrap64 (Int.tdiv a0 10)) : Int).toNat ((wrap64 ((wrap64 (Int.tdiv a0 10)) + 1)) : Int).toNat) ++ ((⟨#[48, 49, 50, 51, 52, 53, 54, 55, 56, 57]⟩ : ByteArray).extract ((Int.tmod a0 10) : Int).toNat ((wrap64 ((Int.tmod a0 10) + 1)) : Int).toNat))) else (none)) else (none)) else (none)) else (none)) else (none)) else (none)) else (none))
end Go.Proofs.YtpmieapgbdbabaaDoor.QAll
end

section
/- Walks, written by a program of this session (wip/pp): a Go function comes to what the Lean function beside it tells. -/
namespace Go.Proofs.YtpmieapgbdbabaaDoor.QAll
open Go.RowKit Go.Proofs.YtpmieapgbdbabaaDoorW.PrintWords Go.Proofs.YtpmieapgbdbabaaDoorW.PrintLast Go.Proofs.YtpmieapgbdbabaaDoorW.PrintMore
attribute [local go_sem] max2_int min2_int max_two min_two max_three min_three max_four min_four
set_option linter.unusedVariables false
set_option linter.unusedSimpArgs false

mutual
def squelchref04_Parse.l0 : Nat → ByteArray → Int → ByteArray → Int → Option (ByteArray × Int × Bool)
 | 0, _, _, _, _ => none
 | k + 1, x0, x5, x469000, x469001 => if x5 < (x0.size : Int) then (if 0 ≤ x5 then (squelchref04_Parse.j1 k x0 x5 ((bt x0 x5) != 45) x469000 x469001) else (none)) else (squelchref04_Parse.j1 k x0 x5 false x469000 x469001)
def squelchref04_Parse.j1 : Nat → ByteArray → Int → Bool → ByteArray → Int → Option (ByteArray × Int × Bool)
 | 0, _, _, _, _, _ => none
 | k + 1, x0, x5, x19, x469000, x469001 => if x19 = true then (if 0 ≤ x5 then (if x5 < (x0.size : Int) then (if (bt x0 x5) ≥ 97 then (if (bt x0 x5) ≤ 122 then ((some (([((bt x0 x5) - 32) % 256] : List Int) : List Int)).bind fun y469 => (if x469000.size + (strOfNums y469).size ≤ 9223372036854775807 then (squelchref04_Parse.l0 k x0 (wrap64 (x5 + 1)) (x469000 ++ (strOfNums y469)) x469001) else (none))) else ((some (([bt x0 x5] : List Int) : List Int)).bind fun y472 => (if x469000.size + (strOfNums y472).size ≤ 9223372036854775807 then (squelchref04_Parse.l0 k x0 (wrap64 (x5 + 1)) (x469000 ++ (strOfNums y472)) x469001) else (none)))) else ((some (([bt x0 x5] : List Int) : List Int)).bind fun y475 => (if x469000.size + (strOfNums y475).size ≤ 9223372036854775807 then (squelchref04_Parse.l0 k x0 (wrap64 (x5 + 1)) (x469000 ++ (strOfNums y475)) x469001) else (none)))) else (none)) else (none)) else (if x5 < (x0.size : Int) then (squelchref04_Parse.l1 k x0 x5 false 0 x469000 x469001) else ((squelchref04_Right.f k x469000 x469001).bind fun t480 => (if t480 = true then (some (x469000, x469001, true)) else (some ((⟨#[]⟩ : ByteArray), 0, false)))))
def squelchref04_Parse.l1 : Nat → ByteArray → Int → Bool → Int → ByteArray → Int → Option (ByteArray × Int × Bool)
 | 0, _, _, _, _, _, _ => none
 | k + 1, x0, x5, x7, x8, x469000, x469001 => if x8 ≤ 15 then ((squelchref04_Digits.f x8).bind fun t478 => (if 0 ≤ (wrap64 (x5 + 1)) then (if (wrap64 (x5 + 1)) ≤ (x0.size : Int) then (if t478.toList = (x0.extract ((wrap64 (x5 + 1)) : Int).toNat x0.size).toList then (squelchref04_Parse.l1 k x0 x5 true (wrap64 (x8 + 1)) x469000 x8) else (squelchref04_Parse.l1 k x0 x5 x7 (wrap64 (x8 + 1)) x469000 x469001)) else (none)) else (none))) else (if x7 = true then ((squelchref04_Right.f k x469000 x469001).bind fun t479 => (if t479 = true then (some (x469000, x469001, true)) else (some ((⟨#[]⟩ : ByteArray), 0, false)))) else (some ((⟨#[]⟩ : ByteArray), 0, false)))
end
def squelchref04_Parse.f (k : Nat) (a0 : ByteArray) : Option (ByteArray × Int × Bool) := squelchref04_Parse.l0 k a0 0 (⟨#[]⟩ : ByteArray) 0
end Go.Proofs.YtpmieapgbdbabaaDoor.QAll
end

section
/- Walks, written by a program of this session (wip/pp): a Go function comes to what the Lean function beside it tells. -/
namespace Go.Proofs.YtpmieapgbdbabaaDoor.QAll
open Go.RowKit Go.Proofs.YtpmieapgbdbabaaDoorW.PrintWords Go.Proofs.YtpmieapgbdbabaaDoorW.PrintLast Go.Proofs.YtpmieapgbdbabaaDoorW.PrintMore
attribute [local go_sem] max2_int min2_int max_two min_two max_three min_three max_four min_four
set_option linter.unusedVariables false
set_option linter.unusedSimpArgs false

def squelchref04_Text.f (a0_0 : ByteArray) (a0_1 : Int) : Option (ByteArray) := if a0_1 = 0 then (some a0_0) else (if a0_0.size + 1 ≤ 9223372036854775807 then ((squelchref04_Digits.f a0_1).bind fun t396 => (if (a0_0 ++ (⟨#[45]⟩ : ByteArray)).size + t396.size ≤ 9223372036854775807 then (some ((a0_0 ++ (⟨#[45]⟩ : ByteArray)) ++ t396)) else (none))) else (none))
end Go.Proofs.YtpmieapgbdbabaaDoor.QAll
end

section
/- What the reference says of a call's word: which call is right, its digits, and what is read of a word: as much as the walked program tells; over plain strings and numbers. -/
set_option linter.unusedVariables false
namespace Go.Proofs.YtpmieapgbdbabaaDoor.Pure
open Go.RowKit Go.Proofs.YtpmieapgbdbabaaDoor.QAll Go.Proofs.YtpmieapgbdbabaaDoorW.PrintWords Go.Proofs.YtpmieapgbdbabaaDoorW.PrintLast

theorem len_eq (a : ByteArray) : a.toList.length = a.size := by rw [Go.ByteArray.toList_eq]; simp
theorem bt_at (s : ByteArray) (i : Nat) (h : i < s.size) : ∃ c r, s.toList.drop i = c :: r ∧ s.toList.drop (i + 1) = r ∧ bt s i = (c.toNat : Int) := by
  have hl : i < s.toList.length := by rw [len_eq]; exact h
  refine ⟨s.toList[i], s.toList.drop (i + 1), List.drop_eq_getElem_cons hl, rfl, ?_⟩
  rw [bt_data s i h]
  congr 2
  simp only [Go.ByteArray.toList_eq]
end Go.Proofs.YtpmieapgbdbabaaDoor.Pure
end

section
/- Walks, written by a program of this session (wip/pp): a Go function comes to what the Lean function beside it tells. -/
namespace Go.Proofs.YtpmieapgbdbabaaDoor.QAll
open Go.RowKit Go.Proofs.YtpmieapgbdbabaaDoorW.PrintWords Go.Proofs.YtpmieapgbdbabaaDoorW.PrintLast Go.Proofs.YtpmieapgbdbabaaDoorW.PrintMore
attribute [local go_sem] max2_int min2_int max_two min_two max_three min_three max_four min_four
set_option linter.unusedVariables false
set_option linter.unusedSimpArgs false

def squelchref05_split.l0 : Nat → ByteArray → Int → List ByteArray → Int → Option (List ByteArray)
 | 0, _, _, _, _ => none
 | k + 1, x0, x1, x5, x6 => if x6 < (x0.size : Int) then (if 0 ≤ x6 then (if (bt x0 x6) = x1 then (if x5.length < 8796093022208 then (squelchref05_split.l0 k x0 x1 (x5 ++ [(⟨#[]⟩ : ByteArray)]) (wrap64 (x6 + 1))) else (none)) else (if 0 ≤ (wrap64 ((x5.length : Int) - 1)) then (if (wrap64 ((x5.length : Int) - 1)) < (x5.length : Int) then (if x6 ≤ (wrap64 (x6 + 1)) then (if (wrap64 (x6 + 1)) ≤ (x0.size : Int) then (if (rdOf ByteArray.empty x5 (wrap64 ((x5.length : Int) - 1))).size + (x0.extract (x6 : Int).toNat ((wrap64 (x6 + 1)) : Int).toNat).size ≤ 9223372036854775807 then (squelchref05_split.l0 k x0 x1 (x5.set ((wrap64 ((x5.length : Int) - 1)) : Int).toNat ((rdOf ByteArray.empty x5 (wrap64 ((x5.length : Int) - 1))) ++ (x0.extract (x6 : Int).toNat ((wrap64 (x6 + 1)) : Int).toNat))) (wrap64 (x6 + 1))) else (none)) else (none)) else (none)) else (none)) else (none))) else (none)) else (some x5)
def squelchref05_split.f (k : Nat) (a0 : ByteArray) (a1 : Int) : Option (List ByteArray) := squelchref05_split.l0 k a0 a1 (([(⟨#[]⟩ : ByteArray)] : List ByteArray)) 0
end Go.Proofs.YtpmieapgbdbabaaDoor.QAll
end

section
/- A text's words, parted by one byte: what strings.Split tells and what the reference tells are the same; over plain lists. -/
set_option linter.unusedVariables false
set_option linter.unusedSimpArgs false
namespace Go.Proofs.YtpmieapgbdbabaaDoor.Pure
open Go.RowKit Go.Proofs.YtpmieapgbdbabaaDoor.QAll Go.Proofs.YtpmieapgbdbabaaDoorW.PrintWords

/-- The byte ahead of the first word. -/
def onHead (p : List UInt8) : List (List UInt8) → List (List UInt8)
  | [] => [p]
  | x :: xs => (p ++ x) :: xs
def splitL (c : UInt8) : List UInt8 → List (List UInt8)
  | [] => [[]]
  | b :: r => if b = c then [] :: splitL c r else onHead [b] (splitL c r)
theorem splitL_ne (c : UInt8) : ∀ l, splitL c l ≠ []
  | [] => by simp [splitL]
  | b :: r => by
    unfold splitL
    split
    · simp
    · cases h : splitL c r <;> simp [onHead]
theorem splitK_eq (c : UInt8) : ∀ l : List UInt8, Lib.splitK [c] 0 (Lib.count l [c]) l = splitL c l
  | [] => by
    rw [Lib.count_miss (by simp [Lib.index])]
    rfl
  | b :: l => by
    have ih := splitK_eq c l
    by_cases h : b = c
    · subst h
      have hix : Lib.index (b :: l) [b] = 0 := by rw [Lib.index]; simp [List.isPrefixOf]
      rw [Lib.count_cons_eq, Nat.add_comm, Lib.splitK, hix, if_neg (by decide), splitL, if_pos rfl, ← ih]
      rfl
    · have hp : ([c] : List UInt8).isPrefixOf (b :: l) = false := by simp [List.isPrefixOf, Ne.symm h]
      have hix : Lib.index (b :: l) [c] = if Lib.index l [c] == -1 then -1 else Lib.index l [c] + 1 := by rw [Lib.index, hp]; simp
      rw [Lib.count_cons_ne b c l h, splitL, if_neg h]
      by_cases hm : Lib.index l [c] = -1
      · rw [Lib.count_miss hm] at ih ⊢
        rw [← ih]
        rfl
      · have hge := Lib.index_ge l [c]
        obtain ⟨j, hj⟩ : ∃ j : Nat, Lib.index l [c] = j := ⟨(Lib.index l [c]).toNat, by omega⟩
        have hc := Lib.count_hit (by simp : ([c] : List UInt8) ≠ []) hj
        obtain ⟨k, hk⟩ : ∃ k, Lib.count l [c] = k + 1 := ⟨_, by rw [hc, Nat.add_comm]⟩
        rw [hk] at ih ⊢
        rw [Lib.splitK, hj, if_neg (by first | (simp; done) | (simp; omega))] at ih
        rw [Lib.splitK, hix, hj, if_neg (by first | (simp; done) | (simp; omega)), if_neg (by first | (simp; done) | (simp; omega)), ← ih]
        have e1 : ((j : Int) + 1).toNat = j + 1 := by omega
        have e2 : ((j : Int)).toNat = j := by omega
        rw [e1, e2]
        simp [onHead]
theorem split_list (s : ByteArray) (c : UInt8) : (splitS s ⟨#[c]⟩).map (·.toList) = splitL c s.toList := by
  have h := Lib.splitB_data (⟨#[c]⟩ : ByteArray) 0 (Lib.countB s ⟨#[c]⟩) s
  have e : (fun x : ByteArray => x.data.toList) = (fun x : ByteArray => x.toList) := by funext x; rw [Go.ByteArray.toList_eq]
  rw [e] at h
  unfold splitS
  rw [h, Go.ByteArray.toList_eq]
  exact splitK_eq c s.data.toList
/-- No word is longer than the text; there are no more words than bytes, and one. -/
theorem splitL_len (c : UInt8) : ∀ l : List UInt8, (splitL c l).length ≤ l.length + 1 ∧ ∀ x ∈ splitL c l, x.length ≤ l.length
  | [] => by simp [splitL]
  | b :: r => by
    obtain ⟨h1, h2⟩ := splitL_len c r
    unfold splitL
    split
    · refine ⟨by simp; omega, fun x hx => ?_⟩
      rcases List.mem_cons.1 hx with rfl | hx
      · simp
      · have := h2 x hx; simp; omega
    · cases hr : splitL c r with
      | nil => exact absurd hr (splitL_ne c r)
      | cons y ys =>
        rw [hr] at h1 h2
        refine ⟨by simp [onHead] at h1 ⊢; omega, fun x hx => ?_⟩
        simp only [onHead, List.mem_cons] at hx
        rcases hx with rfl | hx
        · have := h2 y (by simp); simp; omega
        · have := h2 x (by simp [hx]); simp; omega
theorem split_sizes (s : ByteArray) (c : UInt8) : (splitS s ⟨#[c]⟩) ≠ [] ∧ (splitS s ⟨#[c]⟩).length ≤ s.size + 1 ∧ ∀ x ∈ splitS s ⟨#[c]⟩, x.size ≤ s.size := by
  have h := split_list s c
  obtain ⟨h1, h2⟩ := splitL_len c s.toList
  rw [← h, List.length_map, len_eq] at h1
  refine ⟨fun e => splitL_ne c s.toList (by rw [← h, e]; rfl), h1, fun x hx => ?_⟩
  have := h2 x.toList (by rw [← h]; exact List.mem_map_of_mem hx)
  rw [len_eq, len_eq] at this
  exact this
end Go.Proofs.YtpmieapgbdbabaaDoor.Pure
end

section
/- xid.Parse, walked by hand: the parameters of words, or none and ErrForm. -/
set_option linter.unusedVariables false
set_option linter.unusedSimpArgs false
namespace Go.Proofs.YtpmieapgbdbabaaDoor.QAll
open Go.RowKit Go.Shelf Go.Proofs.YtpmieapgbdbabaaDoorW.PrintWords Go.Proofs.YtpmieapgbdbabaaDoorW.PrintLast Go.Proofs.YtpmieapgbdbabaaDoorW.PrintMore

/-- The number of a word; none, if it is none. -/
def atoN (s : ByteArray) : Option Int := match Lib.atoiAll s.data.toList with
  | .ok v => some v
  | _ => none
theorem atoi_ok (s : ByteArray) (hs : s.size ≤ 1000000) (v : Int) (h : atoN s = some v) (w : World) :
    Calls Tryd.prog 72 #[.string s] w fun e w' => e = .returned (.tuple #[.int .i64 v, .nilIface]) ∧ Below w.heap.size w w' := by
  unfold atoN at h
  cases ha : Lib.atoiAll s.data.toList with
  | ok v' =>
    rw [ha] at h
    obtain rfl := Option.some.inj h
    refine (Tryd.strconv_Atoi_ok s (by omega) v' ha w).mono ?_
    rintro e w' ⟨rfl, hw⟩
    refine ⟨rfl, ?_⟩
    rcases hw with rfl | ⟨t, rfl⟩
    · exact Below.refl _ _
    · exact bytes_below (Below.refl _ _) (Nat.le_refl _) _ _
  | _ => rw [ha] at h; cases h
theorem atoi_no (s : ByteArray) (hs : s.size ≤ 1000000) (h : atoN s = none) (w : World) (hE : EnvW w) :
    Calls Tryd.prog 72 #[.string s] w fun e w' => ∃ (v : Int) (N : Nat), e = .returned (.tuple #[.int .i64 v, .iface 160 (.pointer (some ⟨N, 0, none⟩))]) ∧ Below w.heap.size w w' := by
  unfold atoN at h
  cases ha : Lib.atoiAll s.data.toList with
  | ok v' => rw [ha] at h; cases h
  | range =>
    obtain ⟨ev, he1, he2⟩ := hE.rng
    refine (Tryd.strconv_Atoi_range s (by omega) ha ev w he1 he2).mono ?_
    rintro e w' ⟨N, rfl, _, _, hb⟩
    exact ⟨_, N, rfl, hb⟩
  | _ =>
    obtain ⟨ev, he1, he2⟩ := hE.syn
    refine (Tryd.strconv_Atoi_bad s (by omega) (fun v e => by rw [ha] at e; cases e) (fun e => by rw [ha] at e; cases e) ev w he1 he2).mono ?_
    rintro e w' ⟨N, rfl, _, _, hb⟩
    exact ⟨_, N, rfl, hb⟩
theorem six_set {w : World} {g : Nat} {a0 a1 a2 a3 a4 a5 x0 x1 x2 x3 x4 x5 : Value} {t : TypeId} (h : w.heap[g]? = some (.cells #[a0, a1, a2, a3, a4, a5] t (0, 0))) :
    ((((((w.setCell ⟨g, 0, none⟩ x0).setCell ⟨g, 1, none⟩ x1).setCell ⟨g, 2, none⟩ x2).setCell ⟨g, 3, none⟩ x3).setCell ⟨g, 4, none⟩ x4).setCell ⟨g, 5, none⟩ x5).heap[g]? = some (.cells #[x0, x1, x2, x3, x4, x5] t (0, 0)) := by
  simp [World.setCell, Array.getElem?_modify, h]
theorem six_below {n : Nat} {w W : World} {g : Nat} (h : Below n w W) (hg : n ≤ g) (x0 x1 x2 x3 x4 x5 : Value) :
    Below n w ((((((W.setCell ⟨g, 0, none⟩ x0).setCell ⟨g, 1, none⟩ x1).setCell ⟨g, 2, none⟩ x2).setCell ⟨g, 3, none⟩ x3).setCell ⟨g, 4, none⟩ x4).setCell ⟨g, 5, none⟩ x5) :=
  (((((h.setCell hg _).setCell hg _).setCell hg _).setCell hg _).setCell hg _).setCell hg _
/-- What has been read so far. -/
structure XP where
  wd : Bool
  sr : Bool
  n : Int
  k : Int
  t : Int
  m : Int
def XP.set (p : XP) (i : Nat) (v : Int) : XP := if i = 2 then { p with n := v } else if i = 3 then { p with k := v } else if i = 4 then { p with t := v } else { p with m := v }
def xwide : ByteArray := ⟨#[87, 73, 68, 69]⟩
def xsrej : ByteArray := ⟨#[83, 82, 69, 74]⟩
/-- What a word sets, if it is a number's. -/
def xpair (w : ByteArray) : Option (Nat × Int) := if cutHas w 61 = true then (atoN (cutB w 61)).bind fun v => (nameIdx (cutA w 61)).map fun i => (i, v) else none
def xstep (p : XP) (w : ByteArray) : XP := match xpair w with
  | some (i, v) => p.set i v
  | none => if w = xwide then { p with wd := true } else if w = xsrej then { p with sr := true } else p
def xzero : XP := ⟨false, false, 0, 0, 0, 0⟩
def xread (s : ByteArray) : XP := (splitS s ⟨#[32]⟩).foldl xstep xzero
def xid_Parse.f (s : ByteArray) : Option (Bool × Bool × Int × Int × Int × Int × Int) :=
  if s.size ≤ 900000 then
    if s = ⟨#[]⟩ then some (false, false, 0, 0, 0, 0, 2)
    else (xid_Text.f (xread s).wd (xread s).sr (xread s).n (xread s).k (xread s).t (xread s).m).bind fun t =>
      if t = s then some ((xread s).wd, (xread s).sr, (xread s).n, (xread s).k, (xread s).t, (xread s).m, 0) else some (false, false, 0, 0, 0, 0, 2)
  else none
theorem str_at {w : World} {A : Option Addr} {xs : List ByteArray} (h : Kd.C Kd.string w A xs.length xs) (i : Nat) (hi : i < xs.length) : ∃ ad : Addr, A = some ad ∧ w.cell? (ad.add i) = some (.string (xs.getD i ⟨#[]⟩)) := by
  obtain ⟨ad, c, e, _, hk, hc⟩ := Kd.C_get h (⟨#[]⟩ : ByteArray) (i : Int) (by omega) (by omega)
  have hk' : c = [.string (xs.getD (i : Int).toNat ⟨#[]⟩)] := hk
  subst hk'
  have := hc 0 _ rfl
  rw [show Kd.string.sz = 1 from rfl, Nat.mul_one, Nat.add_zero, Int.toNat_natCast] at this
  exact ⟨ad, e, this⟩
theorem take_str (xs : List ByteArray) (i : Nat) (h : i < xs.length) : xs.take (i + 1) = xs.take i ++ [xs.getD i ⟨#[]⟩] := by
  rw [List.take_succ_eq_append_getElem h, List.getD_eq_getElem?_getD, List.getElem?_eq_getElem h]
  rfl
/-- The parameters' block, the result's, the words, and that nothing older has turned. -/
def XI (w : World) (v14 : Value) (ws : List ByteArray) (p : XP) (W : World) : Prop :=
  W.heap[w.heap.size + 1]? = some (.cells #[.bool p.wd, .bool p.sr, .int .i64 p.n, .int .i64 p.k, .int .i64 p.t, .int .i64 p.m] 72 (0, 0)) ∧
  W.heap[w.heap.size]? = some (.cells #[.bool false, .bool false, .int .i64 0, .int .i64 0, .int .i64 0, .int .i64 0] 72 (0, 0)) ∧
  Kd.R Kd.string 9 W w.heap.size (fun _ => True) v14 ws ∧ Below w.heap.size w W
theorem XI_below {w : World} {v14 : Value} {ws : List ByteArray} {p : XP} {W W' : World} (h : XI w v14 ws p W) (hb : Below W.heap.size W W') : XI w v14 ws p W' :=
  ⟨(hb.block _ (lt_of_blk9 h.1)).trans h.1, (hb.block _ (lt_of_blk9 h.2.1)).trans h.2.1, Kd.R_below h.2.2.1 hb, below_then h.2.2.2 h.2.2.2.size hb⟩
theorem strs_far {W : World} {base g i : Nat} {v : Value} {xs : List ByteArray} {cs : Array Value} {ty : TypeId} {f : Nat × Nat} (h : Kd.R Kd.string 9 W base (fun _ => True) v xs) (hg : W.heap[g]? = some (.cells cs ty f)) (ht : ty ≠ 9) (u : Value) : Kd.R Kd.string 9 (W.setCell ⟨g, i, none⟩ u) base (fun _ => True) v xs :=
  Kd.R_mono (Kd.R_far (p := ⟨g, i, none⟩) (Kd.R_mono (Kd.R_bound h) (ok' := fun k => k ≠ g) (fun k hk e => by
    obtain ⟨_, _, _, q, hq, cs', hc⟩ := hk
    have hq' : q = 9 := by simpa [Kd.string, Kd.scalar] using hq
    subst hq'
    subst e
    rw [hg] at hc
    simp only [Option.some.injEq, Obj.cells.injEq] at hc
    exact ht hc.2.1)) (fun k hk => hk) u) (fun _ _ => trivial)
theorem XI_set {w : World} {v14 : Value} {ws : List ByteArray} {p p' : XP} {W : World} {i : Nat} {u : Value} (h : XI w v14 ws p W)
    (hp : (W.setCell ⟨w.heap.size + 1, i, none⟩ u).heap[w.heap.size + 1]? = some (.cells #[.bool p'.wd, .bool p'.sr, .int .i64 p'.n, .int .i64 p'.k, .int .i64 p'.t, .int .i64 p'.m] 72 (0, 0))) : XI w v14 ws p' (W.setCell ⟨w.heap.size + 1, i, none⟩ u) :=
  ⟨hp, (Below.heap_setCell W ⟨w.heap.size + 1, i, none⟩ u w.heap.size (by simp)).trans h.2.1, strs_far h.2.2.1 h.1 (by decide) u, h.2.2.2.setCell (by simp) u⟩
theorem XI_num {w : World} {v14 : Value} {ws : List ByteArray} {p : XP} {W : World} {i : Nat} {v : Int} (h : XI w v14 ws p W) (hi : i = 2 ∨ i = 3 ∨ i = 4 ∨ i = 5) : XI w v14 ws (p.set i v) (W.setCell ⟨w.heap.size + 1, i, none⟩ (.int .i64 v)) := by
  refine XI_set h ?_
  rcases hi with rfl | rfl | rfl | rfl <;> simp [World.setCell, Array.getElem?_modify, h.1, XP.set]
theorem XI_wd {w : World} {v14 : Value} {ws : List ByteArray} {p : XP} {W : World} (h : XI w v14 ws p W) : XI w v14 ws { p with wd := true } (W.setCell ⟨w.heap.size + 1, 0, none⟩ (.bool true)) := by
  refine XI_set h ?_
  simp [World.setCell, Array.getElem?_modify, h.1]
theorem XI_sr {w : World} {v14 : Value} {ws : List ByteArray} {p : XP} {W : World} (h : XI w v14 ws p W) : XI w v14 ws { p with sr := true } (W.setCell ⟨w.heap.size + 1, 1, none⟩ (.bool true)) := by
  refine XI_set h ?_
  simp [World.setCell, Array.getElem?_modify, h.1]
theorem nameIdx_in {s : ByteArray} {i : Nat} (h : nameIdx s = some i) : i = 2 ∨ i = 3 ∨ i = 4 ∨ i = 5 := by
  unfold nameIdx at h
  split at h
  · cases h; omega
  · split at h
    · cases h; omega
    · split at h
      · cases h; omega
      · split at h
        · cases h; omega
        · cases h
set_option maxHeartbeats 8000000 in
set_option maxRecDepth 100000 in
theorem xid_Parse.calls (a0 : ByteArray) (r0 r1 : Bool) (r2 r3 r4 r5 r6 : Int) (w : World) (hE_ : EnvW w) (h : xid_Parse.f a0 = some (r0, r1, r2, r3, r4, r5, r6)) :
    Calls Tryd.prog 49 #[.string a0] w fun e w' => e = .returned (.tuple #[.agg #[.bool r0, .bool r1, .int .i64 r2, .int .i64 r3, .int .i64 r4, .int .i64 r5], .int .i64 r6]) ∧ Below w.heap.size w w' := by
  unfold xid_Parse.f at h
  split at h
  case isFalse => cases h
  rename_i hs
  have HR_ := Aside0.mk h
  have HSZ := Aside0.mk hs
  have HSP := Aside0.mk (Pure.split_sizes a0 32)
  have hu72 := Tryd.underlying72
  have hu121 := Tryd.underlying121
  have HE := Aside0.mk hE_
  clear hE_ h hs
  go_enter Tryd.func49, Tryd.ntmps49
  go_wp2_with (fail)
  have hR := (Below.heap_alloc (w.alloc (.cells #[.bool false, .bool false, .int .i64 0, .int .i64 0, .int .i64 0, .int .i64 0] 72)) (.cells #[.bool false, .bool false, .int .i64 0, .int .i64 0, .int .i64 0, .int .i64 0] 72) w.heap.size (by simp)).trans (heap_alloc_new w (.cells #[.bool false, .bool false, .int .i64 0, .int .i64 0, .int .i64 0, .int .i64 0] 72))
  have hP := heap_alloc_new (w.alloc (.cells #[.bool false, .bool false, .int .i64 0, .int .i64 0, .int .i64 0, .int .i64 0] 72)) (.cells #[.bool false, .bool false, .int .i64 0, .int .i64 0, .int .i64 0, .int .i64 0] 72)
  rw [World.size_alloc] at hP
  have hB := ((Below.refl w.heap.size w).alloc (Nat.le_refl _) (.cells #[.bool false, .bool false, .int .i64 0, .int .i64 0, .int .i64 0, .int .i64 0] 72)).alloc (by simp) (.cells #[.bool false, .bool false, .int .i64 0, .int .i64 0, .int .i64 0, .int .i64 0] 72)
  have hz : w.heap.size + 2 ≤ ((w.alloc (.cells #[.bool false, .bool false, .int .i64 0, .int .i64 0, .int .i64 0, .int .i64 0] 72)).alloc (.cells #[.bool false, .bool false, .int .i64 0, .int .i64 0, .int .i64 0, .int .i64 0] 72)).heap.size := by simp
  generalize (w.alloc (.cells #[.bool false, .bool false, .int .i64 0, .int .i64 0, .int .i64 0, .int .i64 0] 72)).alloc (.cells #[.bool false, .bool false, .int .i64 0, .int .i64 0, .int .i64 0, .int .i64 0] 72) = w1 at hR hP hB hz ⊢
  refine (strings_Split.calls a0 ⟨#[32]⟩ (splitS a0 ⟨#[32]⟩) w1 (HE.out.below hB) (by unfold strings_Split.f; rw [if_pos ⟨Nat.le_refl _, by have := HSZ.out; omega⟩])).mono ?_
  rintro e w2 ⟨v14, rfl, ho, hb⟩
  generalize hws : splitS a0 ⟨#[32]⟩ = ws at ho HSP
  have HX := Aside0.mk (show XI w v14 ws xzero w2 from ⟨(hb.block _ (by omega)).trans hP, (hb.block _ (by omega)).trans hR, Kd.R_lower ho hB.size, below_then hB hB.size hb⟩)
  have HWS := Aside0.mk hws
  obtain ⟨A, c, rfl, hle⟩ := Kd.R_reads ho
  have hlen : ws.length ≤ 1000000 := by have := HSP.out.2.1; have := HSZ.out; omega
  have HLE := Aside0.mk hle.1
  clear hR hP hB hz ho hb hws hle
  go_wp2_with (fail)
  go_loopw [6, 7, 8, 9, 10, 11, 12, 16] (fun v6 v7 v8 v9 v10 v11 v12 v16 wr => ∃ i : Nat, i ≤ ws.length ∧ v16 = .int .i64 (i : Int) ∧ Aside0 (XI w (.slice A ws.length c) ws ((ws.take i).foldl xstep xzero) wr)) (fun v6 v7 v8 v9 v10 v11 v12 v16 _ => ws.length - (intOf v16).toNat)
  case atStart =>
    exact ⟨0, Nat.zero_le _, rfl, HX⟩
  case round =>
    clear HX
    obtain ⟨i, hi, rfl, HX⟩ := hrel
    by_cases hlt : i < ws.length
    · obtain ⟨ad, rfl, y0⟩ := str_at (Kd.R_reads' HX.out.2.2.1).2.2 i hlt
      have HST := Aside0.mk (show (ws.take (i + 1)).foldl xstep xzero = xstep ((ws.take i).foldl xstep xzero) (ws.getD i ⟨#[]⟩) by rw [take_str ws i hlt, List.foldl_append]; rfl)
      have hsz : (ws.getD i ⟨#[]⟩).size ≤ 900000 := by
        have := HSP.out.2.2 (ws.getD i ⟨#[]⟩) (by rw [List.getD_eq_getElem?_getD, List.getElem?_eq_getElem hlt]; exact List.getElem_mem hlt)
        have := HSZ.out
        omega
      generalize ws.getD i ⟨#[]⟩ = wd at y0 HST hsz
      generalize (ws.take i).foldl xstep xzero = p at HX HST
      have hszb := Nat.le_trans (cutB_size wd 61) hsz
      have hcut := strings_Cut.calls wd ⟨#[61]⟩ (cutA wd 61) (cutB wd 61) (cutHas wd 61) wr (by unfold strings_Cut.f; rw [if_pos ⟨rfl, by omega⟩]; rfl)
      have HCUT := Aside0.mk hcut
      have hwr : wrap64 ((i : Int) + 1) = ((i + 1 : Nat) : Int) := by unfold wrap64; omega
      have HWR := Aside0.mk hwr
      clear hcut hwr
      go_wp2_with (fail)
      refine HCUT.out.mono ?_
      rintro e w3 ⟨rfl, hd⟩
      have HX3 := Aside0.mk (XI_below HX.out hd.below)
      clear HX HCUT hd y0
      cases hn : atoN (cutB wd 61) with
      | some v =>
        have HN := Aside0.mk hn
        clear hn
        go_wp2_with (fail)
        refine (atoi_ok (cutB wd 61) (by omega) v HN.out _).mono ?_
        rintro e w4 ⟨rfl, hb⟩
        have HX4 := Aside0.mk (XI_below HX3.out hb)
        clear HX3 hb
        cases hi2 : nameIdx (cutA wd 61) with
        | some idx =>
          have HI := Aside0.mk hi2
          clear hi2
          obtain ⟨⟨q0, q1, q2, q3, q4, q5⟩, f0, f1, f2, f3, f4, f5⟩ := six_cell HX4.out.1
          cases hh : cutHas wd 61 with
          | true =>
            have HXP := Aside0.mk (show xstep p wd = p.set idx v by unfold xstep xpair; rw [hh, if_pos rfl, HN.out, HI.out]; rfl)
            clear hh
            rcases nameIdx_in HI.out with rfl | rfl | rfl | rfl
            all_goals
              go_wp2_with (go_at_call 76; refine (named_any (w.heap.size + 1) (cutA wd 61) _).mono ?_; rintro e w' ⟨rfl, rfl⟩; rw [HI.out, Option.map_some])
              try rw [HWR.out]
              exact ⟨⟨i + 1, by omega, by first | rfl | (congr 1), ⟨by rw [HST.out, HXP.out]; exact XI_num HX4.out (by omega)⟩⟩, by simp only [intOf]; omega⟩
          | false =>
            have HXP := Aside0.mk (show xpair wd = none by unfold xpair; rw [hh]; rfl)
            clear hh
            by_cases hw1 : wd = xwide
            · have hc1 : (wd.toList == [87, 73, 68, 69]) = true := by rw [hw1, Go.ByteArray.toList_eq]; rfl
              have HXS := Aside0.mk (show xstep p wd = { p with wd := true } by unfold xstep; rw [HXP.out]; simp only; rw [if_pos hw1])
              clear hw1 HXP
              go_wp2_with (go_at_call 76; refine (named_any (w.heap.size + 1) (cutA wd 61) _).mono ?_; rintro e w' ⟨rfl, rfl⟩; rw [HI.out, Option.map_some])
              try rw [HWR.out]
              exact ⟨⟨i + 1, by omega, by first | rfl | (congr 1), ⟨by rw [HST.out, HXS.out]; exact XI_wd HX4.out⟩⟩, by simp only [intOf]; omega⟩
            · have hc1 : (wd.toList == [87, 73, 68, 69]) = false := ba_ne (l := [87, 73, 68, 69]) hw1
              by_cases hw2 : wd = xsrej
              · have hc2 : (wd.toList == [83, 82, 69, 74]) = true := by rw [hw2, Go.ByteArray.toList_eq]; rfl
                have HXS := Aside0.mk (show xstep p wd = { p with sr := true } by unfold xstep; rw [HXP.out]; simp only; rw [if_neg hw1, if_pos hw2])
                clear hw1 hw2 HXP
                go_wp2_with (go_at_call 76; refine (named_any (w.heap.size + 1) (cutA wd 61) _).mono ?_; rintro e w' ⟨rfl, rfl⟩; rw [HI.out, Option.map_some])
                try rw [HWR.out]
                exact ⟨⟨i + 1, by omega, by first | rfl | (congr 1), ⟨by rw [HST.out, HXS.out]; exact XI_sr HX4.out⟩⟩, by simp only [intOf]; omega⟩
              · have hc2 : (wd.toList == [83, 82, 69, 74]) = false := ba_ne (l := [83, 82, 69, 74]) hw2
                have HXS := Aside0.mk (show xstep p wd = p by unfold xstep; rw [HXP.out]; simp only; rw [if_neg hw1, if_neg hw2])
                clear hw1 hw2 HXP
                go_wp2_with (go_at_call 76; refine (named_any (w.heap.size + 1) (cutA wd 61) _).mono ?_; rintro e w' ⟨rfl, rfl⟩; rw [HI.out, Option.map_some])
                try rw [HWR.out]
                exact ⟨⟨i + 1, by omega, by first | rfl | (congr 1), ⟨by rw [HST.out, HXS.out]; exact HX4.out⟩⟩, by simp only [intOf]; omega⟩
        | none =>
          have HI := Aside0.mk hi2
          clear hi2
          obtain ⟨⟨q0, q1, q2, q3, q4, q5⟩, f0, f1, f2, f3, f4, f5⟩ := six_cell HX4.out.1
          have HXP := Aside0.mk (show xpair wd = none by unfold xpair; cases cutHas wd 61 <;> simp [HN.out, HI.out])
          cases hh : cutHas wd 61
          all_goals
            clear hh
            by_cases hw1 : wd = xwide
            · have hc1 : (wd.toList == [87, 73, 68, 69]) = true := by rw [hw1, Go.ByteArray.toList_eq]; rfl
              have HXS := Aside0.mk (show xstep p wd = { p with wd := true } by unfold xstep; rw [HXP.out]; simp only; rw [if_pos hw1])
              clear hw1 HXP
              go_wp2_with (go_at_call 76; refine (named_any (w.heap.size + 1) (cutA wd 61) _).mono ?_; rintro e w' ⟨rfl, rfl⟩; rw [HI.out, Option.map_none])
              try rw [HWR.out]
              exact ⟨⟨i + 1, by omega, by first | rfl | (congr 1), ⟨by rw [HST.out, HXS.out]; exact XI_wd HX4.out⟩⟩, by simp only [intOf]; omega⟩
            · have hc1 : (wd.toList == [87, 73, 68, 69]) = false := ba_ne (l := [87, 73, 68, 69]) hw1
              by_cases hw2 : wd = xsrej
              · have hc2 : (wd.toList == [83, 82, 69, 74]) = true := by rw [hw2, Go.ByteArray.toList_eq]; rfl
                have HXS := Aside0.mk (show xstep p wd = { p with sr := true } by unfold xstep; rw [HXP.out]; simp only; rw [if_neg hw1, if_pos hw2])
                clear hw1 hw2 HXP
                go_wp2_with (go_at_call 76; refine (named_any (w.heap.size + 1) (cutA wd 61) _).mono ?_; rintro e w' ⟨rfl, rfl⟩; rw [HI.out, Option.map_none])
                try rw [HWR.out]
                exact ⟨⟨i + 1, by omega, by first | rfl | (congr 1), ⟨by rw [HST.out, HXS.out]; exact XI_sr HX4.out⟩⟩, by simp only [intOf]; omega⟩
              · have hc2 : (wd.toList == [83, 82, 69, 74]) = false := ba_ne (l := [83, 82, 69, 74]) hw2
                have HXS := Aside0.mk (show xstep p wd = p by unfold xstep; rw [HXP.out]; simp only; rw [if_neg hw1, if_neg hw2])
                clear hw1 hw2 HXP
                go_wp2_with (go_at_call 76; refine (named_any (w.heap.size + 1) (cutA wd 61) _).mono ?_; rintro e w' ⟨rfl, rfl⟩; rw [HI.out, Option.map_none])
                try rw [HWR.out]
                exact ⟨⟨i + 1, by omega, by first | rfl | (congr 1), ⟨by rw [HST.out, HXS.out]; exact HX4.out⟩⟩, by simp only [intOf]; omega⟩
      | none =>
        have HN := Aside0.mk hn
        clear hn
        go_wp2_with (fail)
        refine (atoi_no (cutB wd 61) (by omega) HN.out _ (HE.out.below HX3.out.2.2.2)).mono ?_
        rintro e w4 ⟨v, N, rfl, hb⟩
        have HX4 := Aside0.mk (XI_below HX3.out hb)
        clear HX3 hb
        obtain ⟨⟨q0, q1, q2, q3, q4, q5⟩, f0, f1, f2, f3, f4, f5⟩ := six_cell HX4.out.1
        have HXP := Aside0.mk (show xpair wd = none by unfold xpair; cases cutHas wd 61 <;> simp [HN.out])
        cases hh : cutHas wd 61
        all_goals
          clear hh
          by_cases hw1 : wd = xwide
          · have hc1 : (wd.toList == [87, 73, 68, 69]) = true := by rw [hw1, Go.ByteArray.toList_eq]; rfl
            have HXS := Aside0.mk (show xstep p wd = { p with wd := true } by unfold xstep; rw [HXP.out]; simp only; rw [if_pos hw1])
            clear hw1 HXP
            go_wp2_with (go_at_call 76; refine (named_any (w.heap.size + 1) (cutA wd 61) _).mono ?_; rintro e w' ⟨rfl, rfl⟩; skip)
            try rw [HWR.out]
            exact ⟨⟨i + 1, by omega, by first | rfl | (congr 1), ⟨by rw [HST.out, HXS.out]; exact XI_wd HX4.out⟩⟩, by simp only [intOf]; omega⟩
          · have hc1 : (wd.toList == [87, 73, 68, 69]) = false := ba_ne (l := [87, 73, 68, 69]) hw1
            by_cases hw2 : wd = xsrej
            · have hc2 : (wd.toList == [83, 82, 69, 74]) = true := by rw [hw2, Go.ByteArray.toList_eq]; rfl
              have HXS := Aside0.mk (show xstep p wd = { p with sr := true } by unfold xstep; rw [HXP.out]; simp only; rw [if_neg hw1, if_pos hw2])
              clear hw1 hw2 HXP
              go_wp2_with (go_at_call 76; refine (named_any (w.heap.size + 1) (cutA wd 61) _).mono ?_; rintro e w' ⟨rfl, rfl⟩; skip)
              try rw [HWR.out]
              exact ⟨⟨i + 1, by omega, by first | rfl | (congr 1), ⟨by rw [HST.out, HXS.out]; exact XI_sr HX4.out⟩⟩, by simp only [intOf]; omega⟩
            · have hc2 : (wd.toList == [83, 82, 69, 74]) = false := ba_ne (l := [83, 82, 69, 74]) hw2
              have HXS := Aside0.mk (show xstep p wd = p by unfold xstep; rw [HXP.out]; simp only; rw [if_neg hw1, if_neg hw2])
              clear hw1 hw2 HXP
              go_wp2_with (go_at_call 76; refine (named_any (w.heap.size + 1) (cutA wd 61) _).mono ?_; rintro e w' ⟨rfl, rfl⟩; skip)
              try rw [HWR.out]
              exact ⟨⟨i + 1, by omega, by first | rfl | (congr 1), ⟨by rw [HST.out, HXS.out]; exact HX4.out⟩⟩, by simp only [intOf]; omega⟩
    · obtain rfl : i = ws.length := by omega
      have hfin : (ws.take ws.length).foldl xstep xzero = xread a0 := by rw [List.take_length, ← HWS.out]; rfl
      rw [hfin] at HX
      clear hfin hi hlt
      generalize xread a0 = p at HX HR_
      obtain ⟨⟨q0, q1, q2, q3, q4, q5⟩, _⟩ := six_cell HX.out.1
      obtain ⟨⟨z0, z1, z2, z3, z4, z5⟩, f0, f1, f2, f3, f4, f5⟩ := six_cell HX.out.2.1
      have hr := HR_.out
      by_cases ha : a0 = ⟨#[]⟩
      · rw [if_pos ha] at hr
        simp only [Option.some.injEq, Prod.mk.injEq] at hr
        obtain ⟨rfl, rfl, rfl, rfl, rfl, rfl, rfl⟩ := hr
        have he : a0.toList = [] := by rw [ha, Go.ByteArray.toList_eq]
        clear ha HR_
        go_wp2_with (fail)
        refine bodyPost_ret (results_ct rfl _ _ w.heap.size 72 #[.bool false, .bool false, .int .i64 0, .int .i64 0, .int .i64 0, .int .i64 0] (0, 0) _ rfl (six_set HX.out.2.1) Tryd.underlying72 rfl (by kernel_rfl)) rfl ?_
        exact ⟨rfl, six_below HX.out.2.2.2 (Nat.le_refl _) _ _ _ _ _ _⟩
      · rw [if_neg ha] at hr
        obtain ⟨tx, htx, hr⟩ := Option.bind_eq_some_iff.1 hr
        have he : (a0.toList == []) = false := ba_ne (l := []) ha
        have he2 : a0.toList.isEmpty = false := by
          cases hl : a0.toList with
          | nil => rw [hl] at he; cases he
          | cons x y => rfl
        have HTX := Aside0.mk htx
        have HR2 := Aside0.mk hr
        clear ha HR_ htx hr
        go_wp2_with (fail)
        refine (xid_Text.calls p.wd p.sr p.n p.k p.t p.m tx wr (HE.out.below HX.out.2.2.2) HTX.out).mono ?_
        rintro e w5 ⟨rfl, hb⟩
        have HX5 := Aside0.mk (XI_below HX.out hb)
        clear HX hb q0 q1 q2 q3 q4 q5 z0 z1 z2 z3 z4 z5 f0 f1 f2 f3 f4 f5
        obtain ⟨⟨q0, q1, q2, q3, q4, q5⟩, _⟩ := six_cell HX5.out.1
        obtain ⟨⟨z0, z1, z2, z3, z4, z5⟩, f0, f1, f2, f3, f4, f5⟩ := six_cell HX5.out.2.1
        have hr := HR2.out
        by_cases ht : tx = a0
        · rw [if_pos ht] at hr
          simp only [Option.some.injEq, Prod.mk.injEq] at hr
          obtain ⟨rfl, rfl, rfl, rfl, rfl, rfl, rfl⟩ := hr
          have hc : (tx.toList == a0.toList) = true := by rw [ht]; simp
          clear ht HR2
          go_wp2_with (fail)
          refine bodyPost_ret (results_ct rfl _ _ w.heap.size 72 #[.bool p.wd, .bool p.sr, .int .i64 p.n, .int .i64 p.k, .int .i64 p.t, .int .i64 p.m] (0, 0) _ rfl (six_set HX5.out.2.1) Tryd.underlying72 rfl (by kernel_rfl)) rfl ?_
          exact ⟨rfl, six_below HX5.out.2.2.2 (Nat.le_refl _) _ _ _ _ _ _⟩
        · rw [if_neg ht] at hr
          simp only [Option.some.injEq, Prod.mk.injEq] at hr
          obtain ⟨rfl, rfl, rfl, rfl, rfl, rfl, rfl⟩ := hr
          have hc : (tx.toList == a0.toList) = false := by
            rw [beq_eq_false_iff_ne]
            intro e
            apply ht
            rw [Go.ByteArray.toList_eq, Go.ByteArray.toList_eq] at e
            obtain ⟨x⟩ := tx
            obtain ⟨y⟩ := a0
            congr 1
            exact Array.ext' e
          clear ht HR2
          go_wp2_with (fail)
          refine bodyPost_ret (results_ct rfl _ _ w.heap.size 72 #[.bool false, .bool false, .int .i64 0, .int .i64 0, .int .i64 0, .int .i64 0] (0, 0) _ rfl (six_set HX5.out.2.1) Tryd.underlying72 rfl (by kernel_rfl)) rfl ?_
          exact ⟨rfl, six_below HX5.out.2.2.2 (Nat.le_refl _) _ _ _ _ _ _⟩
end Go.Proofs.YtpmieapgbdbabaaDoor.QAll
end

section
/- Walks, written by a program of this session (wip/pp): a Go function comes to what the Lean function beside it tells. -/
namespace Go.Proofs.YtpmieapgbdbabaaDoor.QAll
open Go.RowKit Go.Proofs.YtpmieapgbdbabaaDoorW.PrintWords Go.Proofs.YtpmieapgbdbabaaDoorW.PrintLast Go.Proofs.YtpmieapgbdbabaaDoorW.PrintMore
attribute [local go_sem] max2_int min2_int max_two min_two max_three min_three max_four min_four
set_option linter.unusedVariables false
set_option linter.unusedSimpArgs false

attribute [local go_sem high] eqA72
def squelchlaw08_XidParses.f (k : Nat) (a0 : ByteArray) : Option (Bool) := (squelchlaw08_awake.f k).bind fun t596 => (if t596 = true then (if (a0.size : Int) > 200 then (some true) else ((xid_Parse.f a0).bind fun bt597 => (if bt597.2.2.2.2.2.2 = 0 then ((xid_Right.f bt597.1 bt597.2.1 bt597.2.2.1 bt597.2.2.2.1 bt597.2.2.2.2.1 bt597.2.2.2.2.2.1).bind fun t605 => (if t605 = true then ((xid_Text.f bt597.1 bt597.2.1 bt597.2.2.1 bt597.2.2.2.1 bt597.2.2.2.2.1 bt597.2.2.2.2.2.1).bind fun t606 => (if t606.toList = a0.toList then ((squelchref08_Text.f k bt597.1 bt597.2.1 bt597.2.2.1 bt597.2.2.2.1 bt597.2.2.2.2.1 bt597.2.2.2.2.2.1).bind fun t607 => (some (t607.toList == a0.toList))) else (some false))) else (some false))) else (if bt597.2.2.2.2.2.2 = 2 then (some (!bt597.1 && (!bt597.2.1 && (bt597.2.2.1 == 0 && (bt597.2.2.2.1 == 0 && (bt597.2.2.2.2.1 == 0 && (bt597.2.2.2.2.2.1 == 0))))))) else (some false))))) else (some false))
set_option maxHeartbeats 8000000 in
set_option maxRecDepth 100000 in
theorem squelchlaw08_XidParses.calls (k : Nat) (a0 : ByteArray) (r : Bool) (w : World) (hE_ : EnvW w) (hT_ : r = true) (h : squelchlaw08_XidParses.f k a0 = some r) :
  Calls Tryd.prog 11 #[.string a0] w fun e w' => e = .returned (.bool r) ∧ Below w.heap.size w w' := by
 have hu72 := Tryd.underlying72
 have HB := Aside0.mk (Below.refl w.heap.size w)
 have HE := Aside0.mk hE_
 clear hE_
 have HT_ := Aside0.mk hT_
 clear hT_
 have H : ((squelchlaw08_awake.f k).bind fun t596 => (if t596 = true then (if (a0.size : Int) > 200 then (some true) else ((xid_Parse.f a0).bind fun bt597 => (if bt597.2.2.2.2.2.2 = 0 then ((xid_Right.f bt597.1 bt597.2.1 bt597.2.2.1 bt597.2.2.2.1 bt597.2.2.2.2.1 bt597.2.2.2.2.2.1).bind fun t605 => (if t605 = true then ((xid_Text.f bt597.1 bt597.2.1 bt597.2.2.1 bt597.2.2.2.1 bt597.2.2.2.2.1 bt597.2.2.2.2.2.1).bind fun t606 => (if t606.toList = a0.toList then ((squelchref08_Text.f k bt597.1 bt597.2.1 bt597.2.2.1 bt597.2.2.2.1 bt597.2.2.2.2.1 bt597.2.2.2.2.2.1).bind fun t607 => (some (t607.toList == a0.toList))) else (some false))) else (some false))) else (if bt597.2.2.2.2.2.2 = 2 then (some (!bt597.1 && (!bt597.2.1 && (bt597.2.2.1 == 0 && (bt597.2.2.2.1 == 0 && (bt597.2.2.2.2.1 == 0 && (bt597.2.2.2.2.2.1 == 0))))))) else (some false))))) else (some false))) = some r := h
 clear h
 replace H := Option.bind_eq_some_iff.mp H
 obtain ⟨t596, A20, H⟩ := H
 replace H : (if t596 = true then (if (a0.size : Int) > 200 then (some true) else ((xid_Parse.f a0).bind fun bt597 => (if bt597.2.2.2.2.2.2 = 0 then ((xid_Right.f bt597.1 bt597.2.1 bt597.2.2.1 bt597.2.2.2.1 bt597.2.2.2.2.1 bt597.2.2.2.2.2.1).bind fun t605 => (if t605 = true then ((xid_Text.f bt597.1 bt597.2.1 bt597.2.2.1 bt597.2.2.2.1 bt597.2.2.2.2.1 bt597.2.2.2.2.2.1).bind fun t606 => (if t606.toList = a0.toList then ((squelchref08_Text.f k bt597.1 bt597.2.1 bt597.2.2.1 bt597.2.2.2.1 bt597.2.2.2.2.1 bt597.2.2.2.2.2.1).bind fun t607 => (some (t607.toList == a0.toList))) else (some false))) else (some false))) else (if bt597.2.2.2.2.2.2 = 2 then (some (!bt597.1 && (!bt597.2.1 && (bt597.2.2.1 == 0 && (bt597.2.2.2.1 == 0 && (bt597.2.2.2.2.1 == 0 && (bt597.2.2.2.2.2.1 == 0))))))) else (some false))))) else (some false)) = some r := H
 have A2 := Aside0.mk A20
 clear A20
 by_cases c3 : t596 = true
 ·subst c3
  have H1 : (if (a0.size : Int) > 200 then (some true) else ((xid_Parse.f a0).bind fun bt597 => (if bt597.2.2.2.2.2.2 = 0 then ((xid_Right.f bt597.1 bt597.2.1 bt597.2.2.1 bt597.2.2.2.1 bt597.2.2.2.2.1 bt597.2.2.2.2.2.1).bind fun t605 => (if t605 = true then ((xid_Text.f bt597.1 bt597.2.1 bt597.2.2.1 bt597.2.2.2.1 bt597.2.2.2.2.1 bt597.2.2.2.2.2.1).bind fun t606 => (if t606.toList = a0.toList then ((squelchref08_Text.f k bt597.1 bt597.2.1 bt597.2.2.1 bt597.2.2.2.1 bt597.2.2.2.2.1 bt597.2.2.2.2.2.1).bind fun t607 => (some (t607.toList == a0.toList))) else (some false))) else (some false))) else (if bt597.2.2.2.2.2.2 = 2 then (some (!bt597.1 && (!bt597.2.1 && (bt597.2.2.1 == 0 && (bt597.2.2.2.1 == 0 && (bt597.2.2.2.2.1 == 0 && (bt597.2.2.2.2.2.1 == 0))))))) else (some false))))) = some r := by rw [if_pos rfl] at H; exact H
  clear H
  have H := H1
  clear H1
  by_cases c4 : (a0.size : Int) > 200
  ·rw [if_pos c4] at H
   have c4b0 : decide (200 < (a0.size : Int)) = true := decide_eq_true c4
   have c4b1 : decide (200 < a0.size) = true := decide_eq_true (by omega)
   clear c4
   obtain rfl := Option.some.inj H
   go_enter Tryd.func11, Tryd.ntmps11
   go_wp2_with (first | ((with_reducible refine gate_callee (f := 46) rfl ?_); refine goesL_ (some 5) rfl rfl Tryd.func46 (by kernel_rfl) rfl #[] rfl (by (try simp only [List.map_toArray, List.map_cons, List.map_nil]); first | done | rfl | (simp only [List.length_drop, List.length_take]; rfl)) ?_; (with_reducible refine (squelchlaw08_awake.calls k  true _ A2.out).mono ?_); rintro e w5 ⟨rfl, hb⟩; refine ⟨_, rfl, ?_⟩; have n0_ := Aside0.mk (below_step (by repeat (first | (with_reducible first | exact HB.out | apply below_alloc | apply pw_below_drewN | apply below_drew1) | exact HB.out)) hb); clear HB; have HB := n0_; clear n0_; (try clear hb); (try clear hb2); (try clear hk); (try clear hi)))
   go_ret
   exact ⟨by first | rfl | (simp [errW_none, errW_some] <;> rfl) | (simp [*, errW_none, errW_some] <;> rfl), by repeat (first | (with_reducible first | exact HB.out | apply below_alloc | apply pw_below_drewN | apply below_drew1) | exact HB.out)⟩
  ·rw [if_neg c4] at H
   have c4b0 : decide (200 < (a0.size : Int)) = false := decide_eq_false c4
   have c4b1 : decide (200 < a0.size) = false := decide_eq_false (by omega)
   clear c4
   replace H := Option.bind_eq_some_iff.mp H
   obtain ⟨⟨t597, t598, t599, t600, t601, t602, t603⟩, A60, H⟩ := H
   replace H : (if t603 = 0 then ((xid_Right.f t597 t598 t599 t600 t601 t602).bind fun t605 => (if t605 = true then ((xid_Text.f t597 t598 t599 t600 t601 t602).bind fun t606 => (if t606.toList = a0.toList then ((squelchref08_Text.f k t597 t598 t599 t600 t601 t602).bind fun t607 => (some (t607.toList == a0.toList))) else (some false))) else (some false))) else (if t603 = 2 then (some (!t597 && (!t598 && (t599 == 0 && (t600 == 0 && (t601 == 0 && (t602 == 0))))))) else (some false))) = some r := H
   have A6 := Aside0.mk A60
   clear A60
   by_cases c7 : t603 = 0
   ·rw [if_pos c7] at H
    have c7b0 : (t603 == 0) = true := beq_iff_eq.mpr c7
    have c7b1 : (t603 != 0) = false := bne_eq_false_iff_eq.mpr c7
    clear c7
    replace H := Option.bind_eq_some_iff.mp H
    obtain ⟨t605, A80, H⟩ := H
    replace H : (if t605 = true then ((xid_Text.f t597 t598 t599 t600 t601 t602).bind fun t606 => (if t606.toList = a0.toList then ((squelchref08_Text.f k t597 t598 t599 t600 t601 t602).bind fun t607 => (some (t607.toList == a0.toList))) else (some false))) else (some false)) = some r := H
    have A8 := Aside0.mk A80
    clear A80
    by_cases c9 : t605 = true
    ·subst c9
     have H1 : ((xid_Text.f t597 t598 t599 t600 t601 t602).bind fun t606 => (if t606.toList = a0.toList then ((squelchref08_Text.f k t597 t598 t599 t600 t601 t602).bind fun t607 => (some (t607.toList == a0.toList))) else (some false))) = some r := by rw [if_pos rfl] at H; exact H
     clear H
     have H := H1
     clear H1
     replace H := Option.bind_eq_some_iff.mp H
     obtain ⟨t606, A100, H⟩ := H
     replace H : (if t606.toList = a0.toList then ((squelchref08_Text.f k t597 t598 t599 t600 t601 t602).bind fun t607 => (some (t607.toList == a0.toList))) else (some false)) = some r := H
     have A10 := Aside0.mk A100
     clear A100
     by_cases c11 : t606.toList = a0.toList
     ·rw [if_pos c11] at H
      have c11b0 : (t606.toList == a0.toList) = true := beq_iff_eq.mpr c11
      have c11b1 : (t606.toList != a0.toList) = false := bne_eq_false_iff_eq.mpr c11
      clear c11
      replace H := Option.bind_eq_some_iff.mp H
      obtain ⟨t607, A120, H⟩ := H
      replace H : (some (t607.toList == a0.toList)) = some r := H
      have A12 := Aside0.mk A120
      clear A120
      obtain rfl := Option.some.inj H
      go_enter Tryd.func11, Tryd.ntmps11
      go_wp2_with (first | ((with_reducible refine gate_callee (f := 46) rfl ?_); refine goesL_ (some 5) rfl rfl Tryd.func46 (by kernel_rfl) rfl #[] rfl (by (try simp only [List.map_toArray, List.map_cons, List.map_nil]); first | done | rfl | (simp only [List.length_drop, List.length_take]; rfl)) ?_; (with_reducible refine (squelchlaw08_awake.calls k  true _ A2.out).mono ?_); rintro e w13 ⟨rfl, hb⟩; refine ⟨_, rfl, ?_⟩; have n0_ := Aside0.mk (below_step (by repeat (first | (with_reducible first | exact HB.out | apply below_alloc | apply pw_below_drewN | apply below_drew1) | exact HB.out)) hb); clear HB; have HB := n0_; clear n0_; (try clear hb); (try clear hb2); (try clear hk); (try clear hi)) | ((with_reducible refine gate_callee (f := 49) rfl ?_); refine goesL_ (some 12) rfl rfl Tryd.func49 (by kernel_rfl) rfl #[.string a0] rfl (by (try simp only [List.map_toArray, List.map_cons, List.map_nil]); first | done | rfl | (simp only [List.length_drop, List.length_take]; rfl)) ?_; (with_reducible refine (xid_Parse.calls a0 t597 t598 t599 t600 t601 t602 t603 _ ?side1 A6.out).mono ?_); (case side1 => exact EnvW.below HE.out (by repeat (first | (with_reducible first | exact HB.out | apply below_alloc | apply pw_below_drewN | apply below_drew1) | exact HB.out))); rintro e w14 ⟨rfl, hb⟩; refine ⟨_, rfl, ?_⟩; have n0_ := Aside0.mk (below_step (by repeat (first | (with_reducible first | exact HB.out | apply below_alloc | apply pw_below_drewN | apply below_drew1) | exact HB.out)) hb); clear HB; have HB := n0_; clear n0_; (try clear hb); (try clear hb2); (try clear hk); (try clear hi)) | ((with_reducible refine gate_dst (N := 3) rfl ?_); refine box_event ?hg (N := 3) ?hd (cs := #[.bool false, .bool false, .int .i64 0, .int .i64 0, .int .i64 0, .int .i64 0]) (t := 72) ?hr ?_; (case hd => rfl); (case hg => rfl); (case hr => first | (go_simp; done) | (go_simp; rfl)); intro gb604 hg w15 hbox hb; have n0_ := Aside0.mk (below_step (by repeat (first | (with_reducible first | exact HB.out | apply below_alloc | apply pw_below_drewN | apply below_drew1) | exact HB.out)) hb); have n1_ := Aside0.mk (hbox); have n2_ := Aside0.mk ((by rw [hg]; exact (below_size (by repeat (first | (with_reducible first | exact HB.out | apply below_alloc | apply pw_below_drewN | apply below_drew1) | exact HB.out))) : w.heap.size ≤ gb604)); have n3_ := Aside0.mk ((by rw [hg]; exact (below_size (by repeat (first | (with_reducible first | exact HB.out | apply below_alloc | apply pw_below_drewN | apply below_drew1) | exact HB.out))) : w.heap.size ≤ gb604)); clear HB; have HB := n0_; have BK604 := n1_; have GW604 := n2_; have GE604 := n3_; clear n0_ n1_ n2_ n3_; clear hb hbox hg; have hcz16_0 : w15.cell? ⟨gb604, 0, none⟩ = some (.bool false) := (blk_cell BK604.out 0).trans rfl; have hcz16_1 : w15.cell? ⟨gb604, 1, none⟩ = some (.bool false) := (blk_cell BK604.out 1).trans rfl; have hcz16_2 : w15.cell? ⟨gb604, 2, none⟩ = some (.int .i64 0) := (blk_cell BK604.out 2).trans rfl; have hcz16_3 : w15.cell? ⟨gb604, 3, none⟩ = some (.int .i64 0) := (blk_cell BK604.out 3).trans rfl; have hcz16_4 : w15.cell? ⟨gb604, 4, none⟩ = some (.int .i64 0) := (blk_cell BK604.out 4).trans rfl; have hcz16_5 : w15.cell? ⟨gb604, 5, none⟩ = some (.int .i64 0) := (blk_cell BK604.out 5).trans rfl; have hfz16_0 := blk_frozen BK604.out 0; have hfz16_1 := blk_frozen BK604.out 1; have hfz16_2 := blk_frozen BK604.out 2; have hfz16_3 := blk_frozen BK604.out 3; have hfz16_4 := blk_frozen BK604.out 4; have hfz16_5 := blk_frozen BK604.out 5) | ((with_reducible refine gate_callee (f := 51) rfl ?_); refine goesL_ (some 25) rfl rfl Tryd.func51 (by kernel_rfl) rfl #[.agg #[.bool t597, .bool t598, .int .i64 t599, .int .i64 t600, .int .i64 t601, .int .i64 t602]] rfl (by (try simp only [List.map_toArray, List.map_cons, List.map_nil]); first | done | rfl | (simp only [List.length_drop, List.length_take]; rfl)) ?_; (with_reducible refine (xid_Right.calls t597 t598 t599 t600 t601 t602 true _ A8.out).mono ?_); rintro e w17 ⟨rfl, hb⟩; refine ⟨_, rfl, ?_⟩; have n0_ := Aside0.mk (blk_below (g := gb604) (o := .cells #[.bool t597, .bool t598, .int .i64 t599, .int .i64 t600, .int .i64 t601, .int .i64 t602] 72 (0, 0)) (by (with_reducible repeat (first | refine blk_drewN ?_ _ | refine blk_drew ?_ | refine blk_alloc ?_ _)); refine blk_put (cs := #[.bool t597, .bool t598, .int .i64 t599, .int .i64 t600, .int .i64 t601, .int .i64 0]) ?_ 5 _ rfl; (with_reducible repeat (first | refine blk_drewN ?_ _ | refine blk_drew ?_ | refine blk_alloc ?_ _)); refine blk_put (cs := #[.bool t597, .bool t598, .int .i64 t599, .int .i64 t600, .int .i64 0, .int .i64 0]) ?_ 4 _ rfl; (with_reducible repeat (first | refine blk_drewN ?_ _ | refine blk_drew ?_ | refine blk_alloc ?_ _)); refine blk_put (cs := #[.bool t597, .bool t598, .int .i64 t599, .int .i64 0, .int .i64 0, .int .i64 0]) ?_ 3 _ rfl; (with_reducible repeat (first | refine blk_drewN ?_ _ | refine blk_drew ?_ | refine blk_alloc ?_ _)); refine blk_put (cs := #[.bool t597, .bool t598, .int .i64 0, .int .i64 0, .int .i64 0, .int .i64 0]) ?_ 2 _ rfl; (with_reducible repeat (first | refine blk_drewN ?_ _ | refine blk_drew ?_ | refine blk_alloc ?_ _)); refine blk_put (cs := #[.bool t597, .bool false, .int .i64 0, .int .i64 0, .int .i64 0, .int .i64 0]) ?_ 1 _ rfl; (with_reducible repeat (first | refine blk_drewN ?_ _ | refine blk_drew ?_ | refine blk_alloc ?_ _)); refine blk_put (cs := #[.bool false, .bool false, .int .i64 0, .int .i64 0, .int .i64 0, .int .i64 0]) ?_ 0 _ rfl; (with_reducible repeat (first | refine blk_drewN ?_ _ | refine blk_drew ?_ | refine blk_alloc ?_ _)); exact BK604.out) hb); have n1_ := Aside0.mk (below_step (by repeat (first | (with_reducible first | exact HB.out | apply below_alloc | apply pw_below_drewN | apply below_drew1 | refine below_set ?_ GE604.out) | exact HB.out)) hb); clear BK604; clear HB; have BK604 := n0_; have HB := n1_; clear n0_ n1_; (try clear hb); (try clear hb2); (try clear hk); (try clear hi); have hcz18_0 : w17.cell? ⟨gb604, 0, none⟩ = some (.bool t597) := (blk_cell BK604.out 0).trans rfl; have hcz18_1 : w17.cell? ⟨gb604, 1, none⟩ = some (.bool t598) := (blk_cell BK604.out 1).trans rfl; have hcz18_2 : w17.cell? ⟨gb604, 2, none⟩ = some (.int .i64 t599) := (blk_cell BK604.out 2).trans rfl; have hcz18_3 : w17.cell? ⟨gb604, 3, none⟩ = some (.int .i64 t600) := (blk_cell BK604.out 3).trans rfl; have hcz18_4 : w17.cell? ⟨gb604, 4, none⟩ = some (.int .i64 t601) := (blk_cell BK604.out 4).trans rfl; have hcz18_5 : w17.cell? ⟨gb604, 5, none⟩ = some (.int .i64 t602) := (blk_cell BK604.out 5).trans rfl; have hfz18_0 := blk_frozen BK604.out 0; have hfz18_1 := blk_frozen BK604.out 1; have hfz18_2 := blk_frozen BK604.out 2; have hfz18_3 := blk_frozen BK604.out 3; have hfz18_4 := blk_frozen BK604.out 4; have hfz18_5 := blk_frozen BK604.out 5) | (go_at_call 47; (with_reducible refine (xid_Text.calls t597 t598 t599 t600 t601 t602 t606 _ ?side1 A10.out).mono ?_); (case side1 => exact EnvW.below HE.out (by repeat (first | (with_reducible first | exact HB.out | apply below_alloc | apply pw_below_drewN | apply below_drew1 | refine below_set ?_ GE604.out) | exact HB.out))); rintro e w19 ⟨rfl, hb⟩; have n0_ := Aside0.mk (blk_below (g := gb604) (o := .cells #[.bool t597, .bool t598, .int .i64 t599, .int .i64 t600, .int .i64 t601, .int .i64 t602] 72 (0, 0)) (by (with_reducible repeat (first | refine blk_drewN ?_ _ | refine blk_drew ?_ | refine blk_alloc ?_ _)); exact BK604.out) hb); have n1_ := Aside0.mk (below_step (by repeat (first | (with_reducible first | exact HB.out | apply below_alloc | apply pw_below_drewN | apply below_drew1 | refine below_set ?_ GE604.out) | exact HB.out)) hb); clear BK604; clear HB; have BK604 := n0_; have HB := n1_; clear n0_ n1_; (try clear hb); (try clear hb2); (try clear hk); (try clear hi); have hcz20_0 : w19.cell? ⟨gb604, 0, none⟩ = some (.bool t597) := (blk_cell BK604.out 0).trans rfl; have hcz20_1 : w19.cell? ⟨gb604, 1, none⟩ = some (.bool t598) := (blk_cell BK604.out 1).trans rfl; have hcz20_2 : w19.cell? ⟨gb604, 2, none⟩ = some (.int .i64 t599) := (blk_cell BK604.out 2).trans rfl; have hcz20_3 : w19.cell? ⟨gb604, 3, none⟩ = some (.int .i64 t600) := (blk_cell BK604.out 3).trans rfl; have hcz20_4 : w19.cell? ⟨gb604, 4, none⟩ = some (.int .i64 t601) := (blk_cell BK604.out 4).trans rfl; have hcz20_5 : w19.cell? ⟨gb604, 5, none⟩ = some (.int .i64 t602) := (blk_cell BK604.out 5).trans rfl; have hfz20_0 := blk_frozen BK604.out 0; have hfz20_1 := blk_frozen BK604.out 1; have hfz20_2 := blk_frozen BK604.out 2; have hfz20_3 := blk_frozen BK604.out 3; have hfz20_4 := blk_frozen BK604.out 4; have hfz20_5 := blk_frozen BK604.out 5) | (go_at_call 50; (with_reducible refine (squelchref08_Text.calls k t597 t598 t599 t600 t601 t602 t607 _ A12.out).mono ?_); rintro e w21 ⟨rfl, hb⟩; have n0_ := Aside0.mk (blk_below (g := gb604) (o := .cells #[.bool t597, .bool t598, .int .i64 t599, .int .i64 t600, .int .i64 t601, .int .i64 t602] 72 (0, 0)) (by (with_reducible repeat (first | refine blk_drewN ?_ _ | refine blk_drew ?_ | refine blk_alloc ?_ _)); exact BK604.out) hb); have n1_ := Aside0.mk (below_step (by repeat (first | (with_reducible first | exact HB.out | apply below_alloc | apply pw_below_drewN | apply below_drew1 | refine below_set ?_ GE604.out) | exact HB.out)) hb); clear BK604; clear HB; have BK604 := n0_; have HB := n1_; clear n0_ n1_; (try clear hb); (try clear hb2); (try clear hk); (try clear hi)))
      go_ret
      exact ⟨by first | rfl | (simp [errW_none, errW_some] <;> rfl) | (simp [*, errW_none, errW_some] <;> rfl), by repeat (first | (with_reducible first | exact HB.out | apply below_alloc | apply pw_below_drewN | apply below_drew1 | refine below_set ?_ GE604.out) | exact HB.out)⟩
     ·rw [if_neg c11] at H
      have c11b0 : (t606.toList == a0.toList) = false := beq_eq_false_iff_ne.mpr c11
      have c11b1 : (t606.toList != a0.toList) = true := bne_iff_ne.mpr c11
      exact absurd ((Option.some.inj H).trans HT_.out) (by decide)
    ·replace c9 := Bool.eq_false_iff.mpr c9
     subst c9
     have H1 : (some false) = some r := by rw [if_neg (show ¬ (false = true) by decide)] at H; exact H
     clear H
     have H := H1
     clear H1
     exact absurd ((Option.some.inj H).trans HT_.out) (by decide)
   ·rw [if_neg c7] at H
    have c7b0 : (t603 == 0) = false := beq_eq_false_iff_ne.mpr c7
    have c7b1 : (t603 != 0) = true := bne_iff_ne.mpr c7
    by_cases c22 : t603 = 2
    ·rw [if_pos c22] at H
     have c22b0 : (t603 == 2) = true := beq_iff_eq.mpr c22
     have c22b1 : (t603 != 2) = false := bne_eq_false_iff_eq.mpr c22
     clear c22
     obtain rfl := Option.some.inj H
     go_enter Tryd.func11, Tryd.ntmps11
     go_wp2_with (first | ((with_reducible refine gate_callee (f := 46) rfl ?_); refine goesL_ (some 5) rfl rfl Tryd.func46 (by kernel_rfl) rfl #[] rfl (by (try simp only [List.map_toArray, List.map_cons, List.map_nil]); first | done | rfl | (simp only [List.length_drop, List.length_take]; rfl)) ?_; (with_reducible refine (squelchlaw08_awake.calls k  true _ A2.out).mono ?_); rintro e w23 ⟨rfl, hb⟩; refine ⟨_, rfl, ?_⟩; have n0_ := Aside0.mk (below_step (by repeat (first | (with_reducible first | exact HB.out | apply below_alloc | apply pw_below_drewN | apply below_drew1) | exact HB.out)) hb); clear HB; have HB := n0_; clear n0_; (try clear hb); (try clear hb2); (try clear hk); (try clear hi)) | ((with_reducible refine gate_callee (f := 49) rfl ?_); refine goesL_ (some 12) rfl rfl Tryd.func49 (by kernel_rfl) rfl #[.string a0] rfl (by (try simp only [List.map_toArray, List.map_cons, List.map_nil]); first | done | rfl | (simp only [List.length_drop, List.length_take]; rfl)) ?_; (with_reducible refine (xid_Parse.calls a0 t597 t598 t599 t600 t601 t602 t603 _ ?side1 A6.out).mono ?_); (case side1 => exact EnvW.below HE.out (by repeat (first | (with_reducible first | exact HB.out | apply below_alloc | apply pw_below_drewN | apply below_drew1) | exact HB.out))); rintro e w24 ⟨rfl, hb⟩; refine ⟨_, rfl, ?_⟩; have n0_ := Aside0.mk (below_step (by repeat (first | (with_reducible first | exact HB.out | apply below_alloc | apply pw_below_drewN | apply below_drew1) | exact HB.out)) hb); clear HB; have HB := n0_; clear n0_; (try clear hb); (try clear hb2); (try clear hk); (try clear hi)) | ((with_reducible refine gate_dst (N := 3) rfl ?_); refine box_event ?hg (N := 3) ?hd (cs := #[.bool false, .bool false, .int .i64 0, .int .i64 0, .int .i64 0, .int .i64 0]) (t := 72) ?hr ?_; (case hd => rfl); (case hg => rfl); (case hr => first | (go_simp; done) | (go_simp; rfl)); intro gb604 hg w25 hbox hb; have n0_ := Aside0.mk (below_step (by repeat (first | (with_reducible first | exact HB.out | apply below_alloc | apply pw_below_drewN | apply below_drew1) | exact HB.out)) hb); have n1_ := Aside0.mk (hbox); have n2_ := Aside0.mk ((by rw [hg]; exact (below_size (by repeat (first | (with_reducible first | exact HB.out | apply below_alloc | apply pw_below_drewN | apply below_drew1) | exact HB.out))) : w.heap.size ≤ gb604)); have n3_ := Aside0.mk ((by rw [hg]; exact (below_size (by repeat (first | (with_reducible first | exact HB.out | apply below_alloc | apply pw_below_drewN | apply below_drew1) | exact HB.out))) : w.heap.size ≤ gb604)); clear HB; have HB := n0_; have BK604 := n1_; have GW604 := n2_; have GE604 := n3_; clear n0_ n1_ n2_ n3_; clear hb hbox hg; have hcz26_0 : w25.cell? ⟨gb604, 0, none⟩ = some (.bool false) := (blk_cell BK604.out 0).trans rfl; have hcz26_1 : w25.cell? ⟨gb604, 1, none⟩ = some (.bool false) := (blk_cell BK604.out 1).trans rfl; have hcz26_2 : w25.cell? ⟨gb604, 2, none⟩ = some (.int .i64 0) := (blk_cell BK604.out 2).trans rfl; have hcz26_3 : w25.cell? ⟨gb604, 3, none⟩ = some (.int .i64 0) := (blk_cell BK604.out 3).trans rfl; have hcz26_4 : w25.cell? ⟨gb604, 4, none⟩ = some (.int .i64 0) := (blk_cell BK604.out 4).trans rfl; have hcz26_5 : w25.cell? ⟨gb604, 5, none⟩ = some (.int .i64 0) := (blk_cell BK604.out 5).trans rfl; have hfz26_0 := blk_frozen BK604.out 0; have hfz26_1 := blk_frozen BK604.out 1; have hfz26_2 := blk_frozen BK604.out 2; have hfz26_3 := blk_frozen BK604.out 3; have hfz26_4 := blk_frozen BK604.out 4; have hfz26_5 := blk_frozen BK604.out 5))
     go_ret
     exact ⟨by first | rfl | (simp [errW_none, errW_some] <;> rfl) | (simp [*, errW_none, errW_some] <;> rfl), by repeat (first | (with_reducible first | exact HB.out | apply below_alloc | apply pw_below_drewN | apply below_drew1 | refine below_set ?_ GE604.out) | exact HB.out)⟩
    ·rw [if_neg c22] at H
     have c22b0 : (t603 == 2) = false := beq_eq_false_iff_ne.mpr c22
     have c22b1 : (t603 != 2) = true := bne_iff_ne.mpr c22
     exact absurd ((Option.some.inj H).trans HT_.out) (by decide)
 ·replace c3 := Bool.eq_false_iff.mpr c3
  subst c3
  have H1 : (some false) = some r := by rw [if_neg (show ¬ (false = true) by decide)] at H; exact H
  clear H
  have H := H1
  clear H1
  exact absurd ((Option.some.inj H).trans HT_.out) (by decide)

end Go.Proofs.YtpmieapgbdbabaaDoor.QAll
end

section
/- Walks, written by a program of this session (wip/pp): a Go function comes to what the Lean function beside it tells. -/
namespace Go.Proofs.YtpmieapgbdbabaaDoor.QAll
open Go.RowKit Go.Proofs.YtpmieapgbdbabaaDoorW.PrintWords Go.Proofs.YtpmieapgbdbabaaDoorW.PrintLast Go.Proofs.YtpmieapgbdbabaaDoorW.PrintMore
attribute [local go_sem] max2_int min2_int max_two min_two max_three min_three max_four min_four
set_option linter.unusedVariables false
set_option linter.unusedSimpArgs false

def squelchref08_Most.j0 : Nat → Bool → Bool → Bool → Option (Int)
 | 0, _, _, _ => none
 | k + 1, x0, x1, x8 => if x8 = true then (some 32) else (if x0 = true then (some 63) else (if x1 = true then (some 4) else (some 7)))
def squelchref08_Most.f (k : Nat) (a0 : Bool) (a1 : Bool) : Option (Int) := if a0 = true then (squelchref08_Most.j0 k a0 a1 a1) else (squelchref08_Most.j0 k a0 a1 false)
end Go.Proofs.YtpmieapgbdbabaaDoor.QAll
end

section
/- Walks, written by a program of this session (wip/pp): a Go function comes to what the Lean function beside it tells. -/
namespace Go.Proofs.YtpmieapgbdbabaaDoor.QAll
open Go.RowKit Go.Proofs.YtpmieapgbdbabaaDoorW.PrintWords Go.Proofs.YtpmieapgbdbabaaDoorW.PrintLast Go.Proofs.YtpmieapgbdbabaaDoorW.PrintMore
attribute [local go_sem] max2_int min2_int max_two min_two max_three min_three max_four min_four
set_option linter.unusedVariables false
set_option linter.unusedSimpArgs false

def squelchref08_Right.f (k : Nat) (a0_0 : Bool) (a0_1 : Bool) (a0_2 : Int) (a0_3 : Int) (a0_4 : Int) (a0_5 : Int) : Option (Bool) := if a0_2 ≥ 16 then (if a0_2 ≤ 256 then (if a0_3 ≥ 1 then ((squelchref08_Most.f k a0_0 a0_1).bind fun t589 => (if a0_3 ≤ t589 then (if a0_4 ≥ 4 then (if a0_4 ≤ 255 then (if a0_5 ≥ 1 then (some (decide (a0_5 ≤ 15))) else (some false)) else (some false)) else (some false)) else (some false))) else (some false)) else (some false)) else (some false)
end Go.Proofs.YtpmieapgbdbabaaDoor.QAll
end

section
/- The words of parameters, plainly: what is written is read back, and is what the document writes. -/
set_option linter.unusedVariables false
set_option linter.unusedSimpArgs false
namespace Go.Proofs.YtpmieapgbdbabaaDoor.Pure
open Go.RowKit Go.Proofs.YtpmieapgbdbabaaDoor.QAll Go.Proofs.YtpmieapgbdbabaaDoorW.PrintWords Go.Proofs.YtpmieapgbdbabaaDoorW.PrintLast

theorem ba_ext {a b : ByteArray} (h : a.data.toList = b.data.toList) : a = b := by
  obtain ⟨a⟩ := a
  obtain ⟨b⟩ := b
  congr 1
  exact Array.ext' h
theorem dl_app (a b : ByteArray) : (a ++ b).data.toList = a.data.toList ++ b.data.toList := by simp
theorem digits_all : ((List.range 1000).all fun a => decide (squelchref08_digits.f (a : Int) = some (itoaB (a : Int)))) = true := by kernel_rfl
theorem digits_f (n : Int) (h0 : 0 ≤ n) (h1 : n ≤ 999) : squelchref08_digits.f n = some (itoaB n) := by
  obtain ⟨a, rfl⟩ := Int.eq_ofNat_of_zero_le h0
  exact of_decide_eq_true (List.all_eq_true.1 digits_all a (List.mem_range.2 (by omega)))
theorem xnum_list (n k t m : Int) (i : Nat) : (xnum n k t m i).data.toList = (xname i).data.toList ++ 61 :: Lib.itoa (xval n k t m i) := by
  unfold xnum
  rw [dl_app, dl_app]
  simp
  rfl
theorem xref_text {n k t m : Int} (h : 16 ≤ n ∧ n ≤ 256 ∧ 1 ≤ k ∧ k ≤ 63 ∧ 4 ≤ t ∧ t ≤ 255 ∧ 1 ≤ m ∧ m ≤ 15) (wd sr : Bool) (K : Nat) (hK : 3 ≤ K) : squelchref08_Text.f K wd sr n k t m = some (xtext wd sr n k t m) := by
  obtain ⟨K, rfl⟩ : ∃ k, K = k + 2 := ⟨K - 2, by omega⟩
  have d0 := digits_f n (by omega) (by omega)
  have d1 := digits_f k (by omega) (by omega)
  have d2 := digits_f t (by omega) (by omega)
  have d3 := digits_f m (by omega) (by omega)
  have l0 := itoaB_len n (by omega) (by omega)
  have l1 := itoaB_len k (by omega) (by omega)
  have l2 := itoaB_len t (by omega) (by omega)
  have l3 := itoaB_len m (by omega) (by omega)
  have c3 : (⟨#[78, 49, 61]⟩ : ByteArray).size = 3 := rfl
  have c4 : (⟨#[32, 75, 61]⟩ : ByteArray).size = 3 := rfl
  have c5 : (⟨#[32, 84, 49, 61]⟩ : ByteArray).size = 4 := rfl
  have c6 : (⟨#[32, 78, 50, 61]⟩ : ByteArray).size = 4 := rfl
  have hj1 : ∀ (x : ByteArray) (a b : Bool), x.size ≤ 100 → squelchref08_Text.j1 (K + 1) x a b n k t m = some ((((((((x ++ (⟨#[78, 49, 61]⟩ : ByteArray)) ++ itoaB n) ++ (⟨#[32, 75, 61]⟩ : ByteArray)) ++ itoaB k) ++ (⟨#[32, 84, 49, 61]⟩ : ByteArray)) ++ itoaB t) ++ (⟨#[32, 78, 50, 61]⟩ : ByteArray)) ++ itoaB m) := by
    intro x a b hx
    rw [squelchref08_Text.j1, if_pos (by omega), d0, Option.bind_some, d1]
    simp only [Option.bind_some, d2, d3, ByteArray.size_append, c3, c4, c5, c6]
    rw [if_pos (by omega), if_pos (by omega), if_pos (by omega), if_pos (by omega), if_pos (by omega), if_pos (by omega), if_pos (by omega)]
  unfold squelchref08_Text.f
  have fin : ∀ (x : ByteArray), x.data.toList = ((xw0 wd sr).map fun y => y.data.toList ++ [32]).flatten → some ((((((((x ++ (⟨#[78, 49, 61]⟩ : ByteArray)) ++ itoaB n) ++ (⟨#[32, 75, 61]⟩ : ByteArray)) ++ itoaB k) ++ (⟨#[32, 84, 49, 61]⟩ : ByteArray)) ++ itoaB t) ++ (⟨#[32, 78, 50, 61]⟩ : ByteArray)) ++ itoaB m) = some (xtext wd sr n k t m) := by
    intro x hx
    congr 1
    apply ba_ext
    have e : (xtext wd sr n k t m).data.toList = Lib.join ((xwords wd sr n k t m).map (·.data.toList)) [32] := by
      unfold xtext joinS joinL
      simp
    rw [e]
    simp only [dl_app, hx, itoaB_list]
    unfold xwords xnums
    rw [show List.range 4 = [0, 1, 2, 3] from rfl]
    simp only [List.map_append, List.map_cons, List.map_nil, xnum_list, xval]
    generalize Lib.itoa n = A0
    generalize Lib.itoa k = A1
    generalize Lib.itoa t = A2
    generalize Lib.itoa m = A3
    cases wd <;> cases sr <;> simp [xw0, Lib.join_cons, Lib.joinTail, xname]
  cases wd with
  | true =>
    rw [if_pos rfl, if_pos (by omega), squelchref08_Text.j0]
    cases sr with
    | true =>
      rw [if_pos rfl, if_pos (by decide), hj1 _ _ _ (by decide)]
      exact fin _ (by decide)
    | false =>
      rw [if_neg (by decide), hj1 _ _ _ (by decide)]
      exact fin _ (by decide)
  | false =>
    rw [if_neg (by decide), squelchref08_Text.j0]
    cases sr with
    | true =>
      rw [if_pos rfl, if_pos (by decide), hj1 _ _ _ (by decide)]
      exact fin _ (by decide)
    | false =>
      rw [if_neg (by decide), hj1 _ _ _ (by decide)]
      exact fin _ (by decide)
theorem awake08 : squelchlaw08_awake.f 60 = some true := by kernel_rfl
theorem xbounds {wd sr : Bool} {n k t m : Int} (h : xrB wd sr n k t m = true) : 16 ≤ n ∧ n ≤ 256 ∧ 1 ≤ k ∧ k ≤ 63 ∧ 4 ≤ t ∧ t ≤ 255 ∧ 1 ≤ m ∧ m ≤ 15 := xright_bounds (by rw [xright_eq, h])
theorem xtext_f (wd sr : Bool) (n k t m : Int) : xid_Text.f wd sr n k t m = some (if xrB wd sr n k t m = true then xtext wd sr n k t m else ⟨#[]⟩) := by
  unfold xid_Text.f
  rw [xright_eq]
  cases xrB wd sr n k t m <;> rfl
end Go.Proofs.YtpmieapgbdbabaaDoor.Pure
end

section
/- The plain law of XidParses: a text is the words of the parameters that are read of it, or of none. -/
set_option linter.unusedVariables false
set_option linter.unusedSimpArgs false
namespace Go.Proofs.YtpmieapgbdbabaaDoor.Pure
open Go.RowKit Go.Proofs.YtpmieapgbdbabaaDoor.QAll Go.Proofs.YtpmieapgbdbabaaDoorW.PrintWords Go.Proofs.YtpmieapgbdbabaaDoorW.PrintLast
theorem XidParses : ∀ (a0 : ByteArray), a0.size ≤ 140737488351232 → ∃ k, squelchlaw08_XidParses.f k a0 = some true := by
  intro s _
  refine ⟨60, ?_⟩
  unfold squelchlaw08_XidParses.f
  rw [awake08, Option.bind_some, if_pos rfl]
  by_cases hs : (s.size : Int) > 200
  · rw [if_pos hs]
  · rw [if_neg hs]
    unfold xid_Parse.f
    rw [if_pos (by omega)]
    by_cases h0 : s = ⟨#[]⟩
    · rw [if_pos h0, Option.bind_some]
      rfl
    · rw [if_neg h0]
      generalize xread s = p
      obtain ⟨wd, sr, n, k, t, m⟩ := p
      simp only
      rw [xtext_f, Option.bind_some]
      by_cases he : (if xrB wd sr n k t m = true then xtext wd sr n k t m else ⟨#[]⟩) = s
      · rw [if_pos he, Option.bind_some]
        cases h : xrB wd sr n k t m with
        | false =>
          rw [h, if_neg (by decide)] at he
          exact absurd he.symm h0
        | true =>
          rw [h, if_pos rfl] at he
          simp only
          rw [if_pos trivial, xright_eq, h, Option.bind_some, if_pos rfl, xtext_f, h, if_pos rfl, Option.bind_some, he, if_pos rfl, xref_text (xbounds h) wd sr 60 (by omega), Option.bind_some, he]
          simp
      · rw [if_neg he, Option.bind_some]
        rfl
end Go.Proofs.YtpmieapgbdbabaaDoor.Pure
end

section
/- From a row's listed variables, and the world's shape, to what the walks ask of the package's variables; and the wrap of a row that hands on both. -/
set_option linter.unusedVariables false
namespace Go.Proofs.YtpmieapgbdbabaaDoor.QAll
open Go.RowKit Go.Lib

theorem lz1 : Tryd.prog.globalNamed "strconv.ErrSyntax" = some 1 := by kernel_rfl
theorem lz2 : Tryd.prog.globalNamed "strconv.ErrRange" = some 2 := by kernel_rfl
theorem lz3 : Tryd.prog.globalNamed "internal/strconv.uint64pow10" = some 3 := by kernel_rfl
theorem lzt1 : (Tryd.prog.globals[1]?).map (·.type) = some 109 := by kernel_rfl
theorem lzt2 : (Tryd.prog.globals[2]?).map (·.type) = some 109 := by kernel_rfl
theorem lzt3 : (Tryd.prog.globals[3]?).map (·.type) = some 186 := by kernel_rfl
theorem lzu109 : Tryd.prog.underlying 109 = some (.interface #[("Error", 112)]) := by kernel_rfl
theorem tab_of_reads {W : World} {name : String} {k : IntKind} {zs : List Int} {g : Nat} {t e : TypeId} {n : Nat}
    (hg : Tryd.prog.globalNamed name = some g) (hty : (Tryd.prog.globals[g]?).map (·.type) = some t) (ht : Tryd.prog.underlying t = some (.array n e)) (he : Tryd.prog.underlying e = some (.int k)) (hce : Tryd.prog.cellsOf e = 1) (hct : Tryd.prog.cellsOf t = n)
    (h : VarReads Tryd.prog W name (tabData k zs)) : TabIs Tryd.prog W name k zs := by
  obtain ⟨g', t', cs, fuel, p, hg', ht', hvar, hd⟩ := h
  obtain rfl := Option.some.inj (hg.symm.trans hg')
  obtain rfl := Option.some.inj (hty.symm.trans ht')
  unfold TabIs
  rw [hvar, ← cells_of_tab ht he hce hct hd]
theorem err_of_reads {W : World} {name : String} {g : Nat} {nm : String} {d : DataW Unit}
    (hg : Tryd.prog.globalNamed name = some g) (hty : (Tryd.prog.globals[g]?).map (·.type) = some 109)
    (h : VarReads Tryd.prog W name (.iface nm d)) : ∃ ev, W.cell? ⟨g, 0, none⟩ = some ev ∧ (ev = .nilIface ∨ ∃ te pe, ev = .iface te pe) := by
  obtain ⟨g', t', cs, fuel, p, hg', ht', hvar, hd⟩ := h
  obtain rfl := Option.some.inj (hg.symm.trans hg')
  obtain rfl := Option.some.inj (hty.symm.trans ht')
  obtain ⟨fuel', u, v, hcs, _, _⟩ := iface_of_trod lzu109 hd
  refine ⟨.iface u v, ?_, Or.inr ⟨u, v, rfl⟩⟩
  have e : cs = #[.iface u v] := by apply Array.ext'; simpa using hcs
  subst e
  simpa using World.var?_cell hg hvar 0
theorem maxLen_shaped {W : World} (h : W.ShapedOpen Tryd.prog) : ∃ m, W.cell? ⟨0, 0, none⟩ = some (.int .i64 m) :=
  cell_of_shapedOpen_int (t := 3) (zero := #[.int .i64 0]) h (of_decide_eq_true (by kernel_rfl)) (by kernel_rfl) rfl (by kernel_rfl) (by kernel_rfl) Tryd.underlying3
theorem env_of_laid {W : World} {l : List (String × DataW Unit)} (hsh : W.ShapedOpen Tryd.prog) (hL : laidMet Tryd.prog l W)
    (h1 : ("internal/strconv.uint64pow10", Rows.laid_internal_strconv_uint64pow10) ∈ l) (h2 : ("strconv.ErrRange", Rows.laid_strconv_ErrRange) ∈ l) (h3 : ("strconv.ErrSyntax", Rows.laid_strconv_ErrSyntax) ∈ l) : EnvW W := by
  refine ⟨maxLen_shaped hsh, err_of_reads lz1 lzt1 (laidMet.reads hL h3), err_of_reads lz2 lzt2 (laidMet.reads hL h2), ?_⟩
  exact tab_of_reads (t := 186) (zs := Lib.pow10Tab) lz3 lzt3 Tryd.underlying186 Tryd.underlying169 (by kernel_rfl) (by kernel_rfl) (laidMet.reads hL h1)

/-- The wrap of a row that lists variables, with the reach, the listed variables and the world's shape handed on. -/
theorem returns_laid_shaped {H : Type} {enc : TypeId × Value → H} {a : Assume} {C : Checked} {os : Os} {f : FuncId} {fn : Func} {s : ChangeSpec} {conds : List PathCond} {apart fresh handsOn again : Bool} {l : List (String × DataW Unit)}
    (own : ownKnob C.prog.godebug = none) (started : os.Started) (noInit : C.prog.inits.idxOf? f = none) (hfn : C.prog.funcs[f]? = some fn)
    (witness : ∃ (w : World) (tape : Tape) (i : Input), w.os = os ∧ (w.forCall tape i).Shaped C.prog ∧ i.vars = [] ∧ Input.okWide C.prog (w.forCall tape i) .any w.heap.size f i ∧
      ((s.pre enc C.prog fn conds apart (w.forCall tape i).memory i.args ∧ laidMetH C.prog l (w.forCall tape i).memory) ∧ sizedMet enc C.prog fn (OpenSpec.ofChange s) apart (w.forCall tape i).memory i.args) ∧ a.holds C.prog (lone (Frame.enter C.prog f i.args .normal) [] (w.forCall tape i)))
    (contract : ∀ (W : World) (base : Nat) (args : Array Value) (ds gs : List (DataW H)) (before : List MemPlace),
      (∀ (j : Nat) t v, fn.params[j]? = some t → args[j]? = some v → Value.okWide C.prog W .any base t v) →
      DataW.Whole enc C.prog fn.params.toList s.vars apart W args.toList ds gs before →
      conds.all (PathCond.test C.prog ⟨fn.params.toList, ds, s.plain.varTypes C.prog, gs⟩) = true →
      (DataW.weightsEach C.prog (fn.params.toList ++ s.plain.varTypes C.prog) (ds ++ gs)).all (· ≤ reachBytes) = true → laidMetH C.prog l W → W.ShapedOpen C.prog →
      Calls C.prog f args W fun e W' => ∃ v, e = .returned v ∧ s.post enc C.prog fn apart fresh handsOn again W args v W') :
    ReturnsInHanded a C os f .any (fun w args => (s.pre enc C.prog fn conds apart w args ∧ laidMetH C.prog l w) ∧ sizedMet enc C.prog fn (OpenSpec.ofChange s) apart w args) (s.post enc C.prog fn apart fresh handsOn again) := by
  refine returnsInHanded_of_calls own started noInit witness ?_
  intro w tape i _ hsh _ hok hpre hholds
  obtain ⟨_, _, _, fn', hfn', _, _, _, _, hval⟩ := hok
  have e : fn' = fn := Option.some.inj (hfn'.symm.trans hfn)
  subst e
  obtain ⟨⟨⟨ds, gs, before, hw, hc⟩, hx⟩, hz⟩ := hpre
  have hw' := DataW.Whole.of_heap (w' := w.forCall tape i) (by rfl) hw
  refine (contract (w.forCall tape i) w.heap.size i.args ds gs before hval hw' hc (hz.weights hw) (laidMetH.of_heap (by rfl) hx) hsh).mono fun e W' ⟨v, he, hp⟩ => ?_
  subst he
  exact ChangeSpec.post_blind hp
end Go.Proofs.YtpmieapgbdbabaaDoor.QAll
end

section
/- The statement that the law squelchlaw08.XidParses is true of every input, its arguments left as they were: the row, out of its walk and its plain law. Written by a program of this session (wip/pp/row.py). -/
namespace Go.Proofs.YtpmieapgbdbabaaDoor.xidParsesRow
open Go.ChangeShapes Go.WideShapes Go.ChangeAt Go.RowKit
open Go.ChangeMaps (open_string shut_string)
set_option linter.unusedVariables false
set_option linter.unusedSimpArgs false
theorem own : ownKnob Tryd.prog.godebug = none := by kernel_rfl
theorem laidOut : laidOutB Tryd.prog = true := by kernel_rfl
theorem met (os : Os) (args : Array Value) : laidMetH Tryd.prog Rows.xidParsesRow.laid ((World.laidAll Tryd.prog os Rows.xidParsesRow.laid).forCall (fun _ _ => 0) ⟨#[], args, []⟩).memory :=
  (show laidMet Tryd.prog Rows.xidParsesRow.laid _ from laidMet_laidAll _ (by kernel_rfl) (by kernel_rfl))
set_option maxRecDepth 100000 in
theorem lifted (os : Os) (started : os.Started) (H : Type) (enc : TypeId × Value → H) :
    ReturnsInHanded {} Tryd.checked os 11 .any (fun w args => (Rows.xidParsesSpec.pre enc Tryd.prog Tryd.f11 Rows.xidParsesRow.domain false w args ∧ laidMetH Tryd.prog Rows.xidParsesRow.laid w) ∧ sizedMet enc Tryd.prog Tryd.f11 (OpenSpec.ofChange Rows.xidParsesSpec) false w args) (Rows.xidParsesSpec.post enc Tryd.prog Tryd.f11 false true false false) := by
  refine QAll.returns_laid_shaped (C := Tryd.checked) own started (by kernel_rfl) Tryd.func11
    (ChangeSpec.witness_at (enc := enc) (C := Tryd.checked) (os := os) (X := fun w _ => laidMetH Tryd.prog Rows.xidParsesRow.laid w) false (World.laidAll Tryd.prog os Rows.xidParsesRow.laid) #[.string ByteArray.empty] 8 (World.laidAll_os _ _ _) (by kernel_rfl) (by kernel_rfl) (by kernel_rfl) (by kernel_rfl) (by kernel_rfl) (met os _)) ?_
  intro W base args ds gs before hval0 hW hcnd hsz0 hL hsh
  have hE : QAll.EnvW W := QAll.env_of_laid hsh (show laidMet Tryd.prog Rows.xidParsesRow.laid W from hL) (by simp [Rows.xidParsesRow]) (by simp [Rows.xidParsesRow]) (by simp [Rows.xidParsesRow])
  have hsz : (DataW.weightsEach Tryd.prog (Tryd.f11.params.toList ++ Rows.xidParsesSpec.plain.varTypes Tryd.prog) (ds ++ gs)).all (· ≤ reachBytes) = true := hsz0
  have hval : ∀ (j : Nat) t v, Tryd.f11.params[j]? = some t → args[j]? = some v → Value.okWide Tryd.prog W .any base t v := hval0
  have hW' := hW
  obtain ⟨p, q, hA0, hV, rfl, hfz, hnd⟩ := hW
  have hA : DataW.TrodAll enc Tryd.prog W 0 (fun _ => true) true Tryd.f11.params.toList args.toList ds p := hA0
  rw [Tryd.params11] at hA hval hsz
  obtain ⟨v0, vs0, d0, ds0, p0, q0, hargs, rfl, rfl, h0, r0⟩ := trodAll_cons hA
  obtain ⟨rfl, rfl, rfl⟩ := trodAll_nil r0
  obtain rfl : args = #[v0] := by cases args; simp_all
  obtain ⟨rfl, rfl⟩ := trodVars_none hV
  have k0 := h0
  have lt0 : ∀ x ∈ p0, x.block < W.heap.size := by obtain ⟨m, hm⟩ := k0; exact DataW.trod_lt m _ _ _ hm
  obtain ⟨a0, rfl, rfl, rfl, ma0⟩ := open_string Tryd.underlying9 (hval 0 9 v0 rfl rfl) h0
  have hz : a0.size ≤ 140737488351232 := by
    have z := hsz
    skip
    simp [DataW.weightsEach, DataW.weights, reachBytes, Tryd.underlying9] at z
    first | omega | exact of_decide_eq_true z | exact ⟨of_decide_eq_true z.1⟩
  have za0 := hz
  clear hA0 hval0 hsz0 hsz
  obtain ⟨k, hp⟩ := Pure.XidParses a0 za0
  refine (QAll.squelchlaw08_XidParses.calls k a0 true W hE rfl hp).mono fun e W' ⟨he, bel⟩ => ?_
  subst he
  exact ⟨_, rfl, _, _, _, [], _, [], hW', trodAll_mk1 (shut_bool Tryd.underlying4 _), (trodAll_cons_mk (Below.trod laidOut (by kernel_rfl) (of_decide_eq_true (by kernel_rfl)) k0 bel lt0) trodAll_mk0), rfl, bel.frame _, fun h => by cases h⟩
theorem over : Rows.xidParsesRow.holds Tryd.pinned (OpenSpec.ofChange Rows.xidParsesSpec) :=
  OpenClaim.holds_of_wide 11 Tryd.f11 rfl rfl rfl rfl rfl rfl rfl ⟨rfl, rfl, rfl, rfl, rfl⟩ rfl rfl rfl rfl rfl (by kernel_rfl) Tryd.func11 (by kernel_rfl)
    (of_decide_eq_true (by kernel_rfl)) (by unfold Func.isWrapper; first | (rw [if_pos (by decide +kernel)]; kernel_rfl) | (rw [if_neg (by decide +kernel)]; exact ⟨rfl, rfl⟩))
    (fun os started H enc _ => lifted os started H enc)
theorem card : Rows.XidParsesCardSaid :=
  Claim7.holds_tied_plain_at .later [] [.data, .data, .data, .data, .sentinel, .sentinel, .pinned] true (true, "b63f2f92baa42f5091e235388c6ae0d54991875acb84ccae606eb7f7e9e6d94e") true
    over (fun _ h => by cases h) (by kernel_rfl) (fun _ h => by cases h) xidParses_row_tie rfl ⟨rfl, rfl⟩ (by kernel_rfl) rfl
    (fun f fn hf hfn => by
      obtain rfl : f = 11 := Option.some.inj ((show Tryd.prog.funcNamed "squelch/squelchlaw08.XidParses" = some 11 by kernel_rfl).symm.trans hf) |>.symm
      obtain rfl : fn = Tryd.f11 := (Option.some.inj (Tryd.func11.symm.trans hfn)).symm
      exact ⟨by kernel_rfl, fun j t ht => by
        rw [Tryd.params11] at ht
        have hm := Array.mem_of_getElem? ht
        simp at hm
        rcases hm with rfl
        · exact (show Tryd.prog.wantsStandIn 9 = false by kernel_rfl)
      ⟩)
    (by kernel_rfl)
end Go.Proofs.YtpmieapgbdbabaaDoor.xidParsesRow
namespace Go.Proofs.YtpmieapgbdbabaaDoor
theorem xidParses_holds : Rows.XidParsesCardSaid := xidParsesRow.card
#print axioms xidParses_holds
end Go.Proofs.YtpmieapgbdbabaaDoor
end
