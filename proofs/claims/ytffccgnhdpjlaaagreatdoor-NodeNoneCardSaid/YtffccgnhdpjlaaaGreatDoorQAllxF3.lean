/- The law NodeNone: the call as a whole, by the runner. -/
import Derived.Test.YtffccgnhdpjlaaaGreatDoorHRun
import Derived.Test.YtffccgnhdpjlaaaGreatDoorHRun2
import Derived.Lib.LaidTab
set_option linter.unusedVariables false
set_option linter.unusedSimpArgs false
namespace Go.Proofs.YtffccgnhdpjlaaaGreatDoor.QAll
open Go Go.RowKit Go.Proofs.YtffccgnhdpjlaaaGreatDoor.Ev
/-- What is asked of the package's variables. -/
structure EnvW (w : World) : Prop where
  asp : Lib.TabIs Tryz.prog w "strings.asciiSpace" .u8 Lib.asciiSpaceTab
theorem gn0 : Tryz.prog.globalNamed "strings.asciiSpace" = some 0 := by kernel_rfl
theorem RL_ints (σ : Sg) (k : IntKind) : ∀ l : List Int, RL σ (l.map fun n => Lf.i k n) (l.map fun n => Value.int k n)
  | [] => trivial
  | n :: l => ⟨rfl, RL_ints σ k l⟩
theorem g_ok (big : Bool) {w : World} (hE : EnvW w) : GOk (KN big) w := fun g t l hg => by
  have hg : (bif Nat.beq g 0 then some (0, Lib.asciiSpaceTab.map fun n => Lf.i .u8 n) else none) = some (t, l) := hg
  cases hb : Nat.beq g 0 with
  | false => rw [hb] at hg; cases hg
  | true =>
    rw [hb, cond_true] at hg
    have hg0 := Nat.eq_of_beq_eq_true hb
    have hp := Option.some.inj hg
    obtain ⟨e1, e2⟩ := Prod.mk.inj hp
    rw [hg0, ← e2]
    have h := hE.asp
    clear hg hp e2
    generalize Lib.asciiSpaceTab = tab at h ⊢
    unfold Lib.TabIs World.var? at h
    rw [gn0, Option.bind_some] at h
    split at h
    · rename_i cs tt fz hc
      have e := Option.some.inj h
      refine ⟨(Array.getElem?_eq_some_iff.1 hc).1, cs, tt, fz, hc, fun σ => ?_⟩
      rw [e]
      exact RL_ints σ .u8 tab
    · cases h
def vals (s : ByteArray) : Nat → Value
  | 0 => .string s
  | _ => .int .i64 (s.size : Int)
def sg (s : ByteArray) : Sg := fun n => if n < 2 then some ⟨0, 0, 0, vals s n⟩ else none
theorem orc_spec {b : Bool} {op : BinOp} {x y r : AE} (h : (KN b).orc op x y = some r) : op = .gtr ∧ x = .lf (.sy 1) ∧ y = .lf (.i .i64 (.ofNat 1000)) ∧ r = .lf (.b b) := by
  unfold KN at h
  dsimp only at h
  split at h
  · exact ⟨rfl, rfl, rfl, (Option.some.inj h).symm⟩
  · cases h
theorem ln_spec {b : Bool} {t : TypeId} {x r : AE} (h : (KN b).ln t x = some r) : t = 9 ∧ x = .lf (.sy 0) ∧ r = .lf (.sy 1) := by
  unfold KN at h
  dsimp only at h
  split at h
  · cases hb : Nat.beq t 9 with
    | false => rw [hb] at h; cases h
    | true =>
      rw [hb, cond_true] at h
      exact ⟨Nat.eq_of_beq_eq_true hb, rfl, (Option.some.inj h).symm⟩
  · cases h
theorem e_ok (s : ByteArray) : EOk Tryz.prog (KN (decide (1000 < s.size))) (sg s) := fun τ hs => by
  have s0 : τ 0 = some ⟨0, 0, 0, .string s⟩ := hs 0 _ rfl
  have s1 : τ 1 = some ⟨0, 0, 0, .int .i64 (s.size : Int)⟩ := hs 1 _ rfl
  refine ⟨(fun n v h => by cases h), fun op x y r h u v hu hv t xo yo w => ?_, fun t x r h u hu ty w => ?_⟩
  · obtain ⟨rfl, rfl, rfl, rfl⟩ := orc_spec h
    obtain ⟨B, hB, rfl, -⟩ := hu
    obtain rfl := Option.some.inj (s1.symm.trans hB)
    obtain rfl : v = .int .i64 1000 := hv
    refine ⟨.bool (decide (1000 < s.size)), ?_, rfl⟩
    have e : decide ((s.size : Int) > 1000) = decide (1000 < s.size) := by
      rw [Bool.eq_iff_iff, decide_eq_true_eq, decide_eq_true_eq]
      omega
    have hg : (eqGuard .gtr t xo yo (.int .i64 (s.size : Int)) (.int .i64 1000)).run Tryz.prog w = .ok () w := rfl
    rw [Sem.run_bind, hg, Result.andThen_ok]
    simp only [binOp, ne_eq, not_true, if_false, Op.intCmp, e]
    rfl
  · obtain ⟨rfl, rfl, rfl⟩ := ln_spec h
    obtain ⟨B, hB, rfl, -⟩ := hu
    obtain rfl := Option.some.inj (s0.symm.trans hB)
    exact ⟨.int .i64 (s.size : Int), by simp [Builtin.len_, run_underlying Tryz.underlying9, goInt], _, s1, rfl, rfl⟩
theorem run_any (big : Bool) : okB (callBy Tryz.prog FN (runBy Tryz.prog (KN big) AN FN 1000000) 3 [.e (.lf (.sy 0))] ⟨.nil, 2⟩) = true := by
  cases big
  · exact run_small
  · exact run_big
def squelchlaw27_NodeNone.f (k : Nat) (a0 : ByteArray) : Option Bool := some true
theorem squelchlaw27_NodeNone.calls (k : Nat) (a0 : ByteArray) (r : Bool) (w : World) (hE : EnvW w) (hT_ : r = true) (h : squelchlaw27_NodeNone.f k a0 = some r) :
    Calls Tryz.prog 3 #[.string a0] w fun e w' => e = .returned (.bool r) ∧ Below w.heap.size w w' := by
  subst hT_
  obtain ⟨T, hT⟩ := okB_ok (run_any (decide (1000 < a0.size)))
  refine (run_calls mixed (KN_idle _) AN_ok FN_ok hT (vs := [.string a0]) (g_ok _ hE) (e_ok a0) (Ok.start w 2 (vals a0)) ⟨⟨_, rfl, rfl, rfl⟩, trivial⟩).mono fun e w' he => ?_
  obtain ⟨u, rfl, τ, k1, k2, k3⟩ := he
  exact ⟨by rw [show u = _ from k1], k2.below⟩
end Go.Proofs.YtffccgnhdpjlaaaGreatDoor.QAll
