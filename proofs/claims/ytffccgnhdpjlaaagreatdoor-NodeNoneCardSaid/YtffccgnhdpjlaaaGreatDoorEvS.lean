/- Sums of whole numbers that are none below nought and stay small: by the kernel's own numbers. -/
import Derived.Test.YtffccgnhdpjlaaaGreatDoorEvI
set_option linter.unusedVariables false
set_option linter.unusedSimpArgs false
namespace Go.Proofs.YtffccgnhdpjlaaaGreatDoor.Ev
open Go Go.RowKit
noncomputable def maxN : IntKind → Nat
  | .i8 => 127
  | .i16 => 32767
  | .i32 => 2147483647
  | .i64 => 9223372036854775807
  | .u8 => 255
  | .u16 => 65535
  | .u32 => 4294967295
  | .u64 => 18446744073709551615
theorem wrap_small (k : IntKind) (n : Nat) (h : n ≤ maxN k) : k.wrap (n : Int) = n := by
  cases k <;> simp only [maxN] at h <;> simp [IntKind.wrap, IntKind.bits, IntKind.signed] <;> omega
theorem max_lt (k : IntKind) : maxN k < 2 ^ k.bits := by cases k <;> decide
noncomputable def lim (k : IntKind) (n : Nat) : Option Sf := bif Nat.ble n (maxN k) then some (.v (.e (.lf (.i k (.ofNat n))))) else none
noncomputable def evInt (op : BinOp) (x y : Option AV) : Option Sf := match x, y with
  | some (.e (.lf (.i k (.ofNat a)))), some (.e (.lf (.i k' (.ofNat b)))) => (match op with
    | .shl => bif Nat.blt b k.bits then lim k (Nat.shiftLeft a b) else none
    | .shr => bif Nat.blt b k.bits then lim k (Nat.shiftRight a b) else none
    | .quo => none
    | .rem => none
    | .andNot => none
    | _ => bif decide (k = k') then (match op with
      | .add => lim k (a + b)
      | .sub => bif Nat.ble b a then lim k (a - b) else none
      | .mul => lim k (a * b)
      | .and => bif Nat.ble a (maxN k) && Nat.ble b (maxN k) then lim k (Nat.land a b) else none
      | .or => bif Nat.ble a (maxN k) && Nat.ble b (maxN k) then lim k (Nat.lor a b) else none
      | .xor => bif Nat.ble a (maxN k) && Nat.ble b (maxN k) then lim k (Nat.xor a b) else none
      | .eql => some (.v (.e (.lf (.b (Nat.beq a b)))))
      | .neq => some (.v (.e (.lf (.b (!Nat.beq a b)))))
      | .lss => some (.v (.e (.lf (.b (Nat.blt a b)))))
      | .leq => some (.v (.e (.lf (.b (Nat.ble a b)))))
      | .gtr => some (.v (.e (.lf (.b (Nat.blt b a)))))
      | .geq => some (.v (.e (.lf (.b (Nat.ble b a)))))
      | _ => none) else none)
  | _, _ => none
section
variable {P : Program} {σ : Sg} {nm : Nat} {w : World}
theorem lim_ok {k : IntKind} {n : Nat} {r : Sf} (h : lim k n = some r) {s : Sem Value} (hs : n ≤ maxN k → s.run P w = .ok (.int k (n : Int)) w) : SfOk σ nm w (s.run P w) r := by
  unfold lim at h
  cases hb : Nat.ble n (maxN k) with
  | false => rw [hb] at h; cases h
  | true =>
    rw [hb, cond_true] at h
    obtain rfl := Option.some.inj h
    exact ⟨_, hs (Nat.le_of_ble_eq_true hb), rfl⟩
theorem bv_of (k : IntKind) {a : Nat} (h : a ≤ maxN k) : (BitVec.ofInt k.bits (a : Int)).toNat = a := by
  have := max_lt k
  rw [BitVec.toNat_ofInt]
  have h2 : ((a : Int) % ((2 ^ k.bits : Nat) : Int)) = a := Int.emod_eq_of_lt (by omega) (by exact_mod_cast (show a < 2 ^ k.bits by omega))
  rw [h2]
  rfl
theorem evInt_ok {op : BinOp} {t : TypeId} {x y : Operand} {ρ : Operand → Option AV} {ev : Operand → Value} (hA : HA σ ρ ev) {r : Sf} (h : evInt op (ρ x) (ρ y) = some r) :
    SfOk σ nm w ((do eqGuard op t x y (ev x) (ev y); binOp op t (ev x) (ev y) : Sem Value).run P w) r := by
  have hx := hA x
  have hy := hA y
  unfold evInt at h
  split at h
  · rename_i k a k' b h1 h2
    have e1 : ev x = .int k (a : Int) := hx _ h1
    have e2 : ev y = .int k' (b : Int) := hy _ h2
    rw [e1, e2]
    have hg : ∀ op, (eqGuard op t x y (.int k (a : Int)) (.int k' (b : Int))).run P w = .ok () w := fun op => by unfold eqGuard; cases op <;> rfl
    have go : ∀ op, (do eqGuard op t x y (.int k (a : Int)) (.int k' (b : Int)); binOp op t (.int k (a : Int)) (.int k' (b : Int)) : Sem Value).run P w = (binOp op t (.int k (a : Int)) (.int k' (b : Int))).run P w := fun op => by
      rw [Sem.run_bind, hg, Result.andThen_ok]
    rw [go]
    have fromB : ∀ {q : Bool} {op : BinOp}, some (Sf.v (.e (.lf (.b q)))) = some r → (binOp op t (.int k (a : Int)) (.int k' (b : Int))).run P w = .ok (.bool q) w → SfOk σ nm w ((binOp op t (.int k (a : Int)) (.int k' (b : Int))).run P w) r := fun hq hr => by
      obtain rfl := Option.some.inj hq
      exact ⟨_, hr, rfl⟩
    split at h
    · cases hc : Nat.blt b k.bits with
      | false => rw [hc] at h; cases h
      | true =>
        rw [hc, cond_true] at h
        have hb : b < k.bits := Nat.le_of_ble_eq_true hc
        refine lim_ok h fun hl => ?_
        show (Op.shift .shl k (a : Int) k' (b : Int)).run P w = _
        unfold Op.shift
        have hmin : min b k.bits = b := Nat.min_eq_left (Nat.le_of_lt hb)
        rw [if_neg (by omega)]
        simp only [Int.toNat_natCast, hmin]
        have : ((a : Int) * 2 ^ b) = ((Nat.shiftLeft a b : Nat) : Int) := by
          show _ = ((a <<< b : Nat) : Int)
          rw [Nat.shiftLeft_eq]
          push_cast
          rfl
        rw [this, wrap_small k _ hl]
        rfl
    · cases hc : Nat.blt b k.bits with
      | false => rw [hc] at h; cases h
      | true =>
        rw [hc, cond_true] at h
        have hb : b < k.bits := Nat.le_of_ble_eq_true hc
        refine lim_ok h fun hl => ?_
        show (Op.shift .shr k (a : Int) k' (b : Int)).run P w = _
        unfold Op.shift
        have hmin : min b k.bits = b := Nat.min_eq_left (Nat.le_of_lt hb)
        rw [if_neg (by omega)]
        simp only [Int.toNat_natCast, hmin]
        have : (a : Int).fdiv (2 ^ b) = ((Nat.shiftRight a b : Nat) : Int) := by
          show _ = ((a >>> b : Nat) : Int)
          have e : ((2 : Int) ^ b) = ((2 ^ b : Nat) : Int) := by push_cast; rfl
          rw [Nat.shiftRight_eq_div_pow, e, Int.fdiv_eq_ediv_of_nonneg _ (Int.natCast_nonneg _)]
          rfl
        rw [this]
        rfl
    · cases h
    · cases h
    · cases h
    · cases hk : decide (k = k') with
      | false => rw [hk] at h; cases h
      | true =>
        rw [hk, cond_true] at h
        obtain rfl := of_decide_eq_true hk
        have bits : ∀ {f : Nat → Nat → Nat} {op : BinOp}, (bif Nat.ble a (maxN k) && Nat.ble b (maxN k) then lim k (f a b) else none) = some r → (binOp op t (.int k (a : Int)) (.int k (b : Int))).run P w = .ok (.int k (k.wrap ((f (BitVec.ofInt k.bits (a : Int)).toNat (BitVec.ofInt k.bits (b : Int)).toNat : Nat) : Int))) w → SfOk σ nm w ((binOp op t (.int k (a : Int)) (.int k (b : Int))).run P w) r := fun {f op} hq hr => by
          cases hc : (Nat.ble a (maxN k) && Nat.ble b (maxN k)) with
          | false => rw [hc] at hq; cases hq
          | true =>
            rw [hc, cond_true] at hq
            simp only [Bool.and_eq_true] at hc
            have c1 := bv_of k (Nat.le_of_ble_eq_true hc.1)
            have c2 := bv_of k (Nat.le_of_ble_eq_true hc.2)
            refine lim_ok hq fun hl => ?_
            rw [hr, c1, c2, wrap_small k _ hl]
        split at h
        · refine lim_ok h fun hl => ?_
          have : (k.wrap ((a : Int) + (b : Int))) = ((a + b : Nat) : Int) := by rw [← wrap_small k _ hl]; push_cast; rfl
          simp [binOp, Op.intArith, this]
        · cases hc : Nat.ble b a with
          | false => rw [hc] at h; cases h
          | true =>
            rw [hc, cond_true] at h
            have hba := Nat.le_of_ble_eq_true hc
            refine lim_ok h fun hl => ?_
            have : (k.wrap ((a : Int) - (b : Int))) = ((a - b : Nat) : Int) := by rw [← wrap_small k _ hl]; congr 1; omega
            simp [binOp, Op.intArith, this]
        · refine lim_ok h fun hl => ?_
          have : (k.wrap ((a : Int) * (b : Int))) = ((a * b : Nat) : Int) := by rw [← wrap_small k _ hl]; push_cast; rfl
          simp [binOp, Op.intArith, this]
        · exact bits (f := Nat.land) h (by simp only [binOp, ne_eq, not_true, if_false]; show (Op.intBits .and k _ _).run P w = _; unfold Op.intBits; simp only [BitVec.toNat_and]; rfl)
        · exact bits (f := Nat.lor) h (by simp only [binOp, ne_eq, not_true, if_false]; show (Op.intBits .or k _ _).run P w = _; unfold Op.intBits; simp only [BitVec.toNat_or]; rfl)
        · exact bits (f := Nat.xor) h (by simp only [binOp, ne_eq, not_true, if_false]; show (Op.intBits .xor k _ _).run P w = _; unfold Op.intBits; simp only [BitVec.toNat_xor]; rfl)
        · refine fromB (op := .eql) h ?_
          have e : ((a : Int) == (b : Int)) = Nat.beq a b := by
            rw [Bool.eq_iff_iff, beq_iff_eq, Nat.beq_eq]
            omega
          simp only [binOp, ne_eq, not_true, if_false, Op.intCmp, e]
          rfl
        · refine fromB (op := .neq) h ?_
          have e : ((a : Int) != (b : Int)) = !Nat.beq a b := by
            have e : ((a : Int) == (b : Int)) = Nat.beq a b := by
              rw [Bool.eq_iff_iff, beq_iff_eq, Nat.beq_eq]
              omega
            unfold bne
            rw [e]
          simp only [binOp, ne_eq, not_true, if_false, Op.intCmp, e]
          rfl
        · refine fromB (op := .lss) h ?_
          have e : decide ((a : Int) < (b : Int)) = Nat.blt a b := by
            rw [Bool.eq_iff_iff, decide_eq_true_eq, Nat.blt_eq]
            omega
          simp only [binOp, ne_eq, not_true, if_false, Op.intCmp, e]
          rfl
        · refine fromB (op := .leq) h ?_
          have e : decide ((a : Int) ≤ (b : Int)) = Nat.ble a b := by
            rw [Bool.eq_iff_iff, decide_eq_true_eq, Nat.ble_eq]
            omega
          simp only [binOp, ne_eq, not_true, if_false, Op.intCmp, e]
          rfl
        · refine fromB (op := .gtr) h ?_
          have e : decide ((a : Int) > (b : Int)) = Nat.blt b a := by
            rw [Bool.eq_iff_iff, decide_eq_true_eq, Nat.blt_eq]
            omega
          simp only [binOp, ne_eq, not_true, if_false, Op.intCmp, e]
          rfl
        · refine fromB (op := .geq) h ?_
          have e : decide ((a : Int) ≥ (b : Int)) = Nat.ble b a := by
            rw [Bool.eq_iff_iff, decide_eq_true_eq, Nat.ble_eq]
            omega
          simp only [binOp, ne_eq, not_true, if_false, Op.intCmp, e]
          rfl
        · cases h
  · cases h
end
end Go.Proofs.YtffccgnhdpjlaaaGreatDoor.Ev
