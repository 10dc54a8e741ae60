/- Regions of open order, by the runner: what is run, and what is looked at. -/
import Derived.Test.YtffccgnhdpjlaaaGreatDoorEvO
set_option linter.unusedVariables false
set_option linter.unusedSimpArgs false
namespace Go.Proofs.YtffccgnhdpjlaaaGreatDoor.Ev
open Go Go.RowKit
/-! ### who must stand ahead of whom -/
noncomputable def bit (m i : Nat) : Bool := Nat.testBit m i
noncomputable def edgeMask (ms : List Nat) : List Edge → Nat
  | [] => 0
  | e :: l => bif Region.binds .any e then Nat.lor (Nat.lor (Nat.shiftLeft 1 e.on) (ms.getD e.on 0)) (edgeMask ms l) else edgeMask ms l
noncomputable def mkMasks : List Oper → List Nat → List Nat
  | [], ms => ms
  | o :: l, ms => fN (edgeMask ms o.after.toList) fun m => mkMasks l (ms ++ [m])
/-- Does an operation read memory? -/
noncomputable def reads (o : Oper) : Bool := match o.op with
  | .load _ _ => true
  | .convert _ _ _ => true
  | .lookup _ _ _ _ => true
  | .slice _ _ _ _ _ => true
  | .call _ => true
  | _ => false
/-! ### the run -/
structure Stg where
  hd : Nat
  M : Nat
  C : Tr AO
  nx : Nat
noncomputable def addAl (base m M : Nat) : List (Nat × AO) → Tr AO → Option (Tr AO)
  | [], H => some H
  | (i, o) :: l, H => bif bit m i && !bit M i then (match Tr.upd (some o) purse H (base + i) with
    | some H' => addAl base m M l H'
    | none => none) else addAl base m M l H
noncomputable def eqL : Lf → Lf → Bool
  | .b x, .b y => x == y
  | .i k n, .i j m => decide (k = j) && decide (n = m)
  | .s l, .s m => nbeq l m
  | .p none, .p none => true
  | .p (some (a, b)), .p (some (c, d)) => Nat.beq a c && Nat.beq b d
  | .sl none a b, .sl none c d => Nat.beq a c && Nat.beq b d
  | .sl (some (m, o)) a b, .sl (some (m', o')) c d => Nat.beq m m' && Nat.beq o o' && Nat.beq a c && Nat.beq b d
  | .m none, .m none => true
  | .m (some a), .m (some b) => Nat.beq a b
  | .fn f [], .fn g [] => Nat.beq f g
  | .raw (.complex k a b), .raw (.complex j c d) => decide (k = j) && Nat.beq a c && Nat.beq b d
  | .sy a, .sy b => Nat.beq a b
  | .raw .nilIface, .raw .nilIface => true
  | .raw .nilFunc, .raw .nilFunc => true
  | _, _ => false
noncomputable def eqLs : List Lf → List Lf → Bool
  | [], [] => true
  | x :: l, y :: m => eqL x y && eqLs l m
  | _, _ => false
noncomputable def eqE : AE → AE → Bool
  | .lf x, .lf y => eqL x y
  | .ag l, .ag m => eqLs l m
  | _, _ => false
noncomputable def eqV : AV → AV → Bool
  | .e x, .e y => eqE x y
  | _, _ => false
noncomputable def eqS : Sf → Sf → Bool
  | .v x, .v y => eqV x y
  | _, _ => false
noncomputable def valid (hall a i : Nat) (s : Stg) : Bool := !bit s.M i && Nat.beq (Nat.land (Nat.land a hall) s.hd) (Nat.land a hall)
structure Fin2 where
  R : Tr AV
  s : Stg
  al : List (Nat × AO)
  sts : List Stg
noncomputable def evAt (P : Program) (K : Kt) (base a : Nat) (al : List (Nat × AO)) (ρ : Operand → Option AV) (o : Oper) (s : Stg) : Option Sf := match addAl base a s.M al s.C with
  | some H => evRead P K H ρ o
  | none => none
noncomputable def checkAt (P : Program) (K : Kt) (base a i : Nat) (fin : Fin2) (ρ : Operand → Option AV) (o : Oper) (r : Sf) : Bool := bif reads o then (match fin.sts with
    | [_] => true
    | l => l.all fun s => !valid fin.s.hd a i s || (match evAt P K base a fin.al ρ o s with
      | some r' => eqS r' r
      | none => false)) else true
noncomputable def setS (n base i : Nat) (R : Tr AV) (d : Option Tmp) : Sf → Option (Tr AV)
  | .v x => setT n R d x
  | .nw k _ => setT n R d (k.av (base + i))
noncomputable def isHard (o : Oper) : Bool := match o.op with
  | .store _ _ _ => true
  | .insert _ _ _ _ => true
  | .mapUpdate _ _ _ _ => true
  | .next _ _ => true
  | .call c => (match c.callee with
    | .builtin .len => false
    | .builtin .min => false
    | .builtin .max => false
    | .builtin .unsafeSliceData => false
    | .builtin .cap => false
    | .builtin .complex => false
    | .builtin .real => false
    | .builtin .imag => false
    | _ => true)
  | _ => false
noncomputable def rgRun (P : Program) (K : Kt) (F : Doer) (n : Nat) (ops : Array Oper) (base : Nat) (ms : List Nat) : List Oper → Nat → Tr AV → Stg → List (Nat × AO) → List Stg → Option Fin2
  | [], i, R, s, al, sts => some ⟨R, s, al, s :: sts⟩
  | o :: l, i, R, s, al, sts => match wantT ops R o with
    | none => none
    | some false => (match setT n R o.dst (.tu []) with
      | some R' => rgRun P K F n ops base ms l (i + 1) R' s al sts
      | none => none)
    | some true => bif isHard o then
        (match addAl base (ms.getD i 0) s.M al s.C with
        | some H => (match evHard P F (rho R) ⟨H, s.nx⟩ o with
          | some (x, T) => (match setT n R o.dst x with
            | some R' => bif Nat.beq (Nat.land s.hd (ms.getD i 0)) s.hd then
                fN (Nat.lor s.hd (Nat.shiftLeft 1 i)) fun hd => fN (Nat.lor (Nat.lor s.M (ms.getD i 0)) (Nat.shiftLeft 1 i)) fun M => rgRun P K F n ops base ms l (i + 1) R' ⟨hd, M, T.H, T.nx⟩ al (s :: sts) else none
            | none => none)
          | none => none)
        | none => none)
      else (match evAt P K base (ms.getD i 0) al (rho R) o s with
        | some r => (match setS n base i R o.dst r with
          | some R' => (match (match r with
              | .v _ => rgRun P K F n ops base ms l (i + 1) R' s al sts
              | .nw _ ob => fAO ob fun ob => rgRun P K F n ops base ms l (i + 1) R' s ((i, ob) :: al) sts) with
            | some fin => bif checkAt P K base (ms.getD i 0) i fin (rho R) o r then some fin else none
            | none => none)
          | none => none)
        | none => none)
/-! ### what is seen without a run -/
noncomputable def dstOf (ops : Array Oper) (j : Nat) : Option Tmp := match ops[j]? with
  | some o => o.dst
  | none => none
noncomputable def apartFrom (t : Tmp) (ms : List Nat) (i : Nat) : List Oper → Nat → Bool
  | [], _ => true
  | o :: l, j => (match o.dst with
    | some d => bif Nat.beq d t then Nat.beq j i || (Nat.blt j i && bit (ms.getD i 0) j) || (Nat.blt i j && bit (ms.getD j 0) i) else true
    | none => true) && apartFrom t ms i l (j + 1)
noncomputable def newDst (d : Tmp) : List Oper → Bool
  | [] => true
  | o :: l => (match o.dst with
    | some d' => !Nat.beq d d'
    | none => true) && newDst d l
noncomputable def tmpsOk (all : List Oper) (ms : List Nat) (i : Nat) : List Operand → Bool
  | [] => true
  | .tmp t :: l => apartFrom t ms i all 0 && tmpsOk all ms i l
  | _ :: l => tmpsOk all ms i l
noncomputable def statRun (all : List Oper) (ms : List Nat) : List Oper → Nat → Bool
  | [], _ => true
  | o :: l, i => (o.after.toList.all fun e => !Region.binds .any e || Nat.blt e.on i) && (match o.dst with
      | some d => newDst d l
      | none => true) && tmpsOk all ms i o.op.operands.toList && (match o.guard with
      | some (g, _) => Nat.blt g i && bit (ms.getD i 0) g
      | none => true) && statRun all ms l (i + 1)
noncomputable def anyRegion (P : Program) (K : Kt) (F : Doer) : Regs := fun n ops R S =>
  (fun ms => bif statRun ops.toList ms ops.toList 0 then
    (match rgRun P K F n ops S.nx ms ops.toList 0 R ⟨0, 0, S.H, S.nx + ops.size⟩ [] [] with
    | some fin => (match addAl S.nx (Nat.shiftLeft 1 ops.size - 1) fin.s.M fin.al fin.s.C with
      | some H => some (fin.R, ⟨H, fin.s.nx⟩)
      | none => none)
    | none => none) else none) (mkMasks ops.toList [])
/-! ### the whole -/
noncomputable def runBy (P : Program) (K : Kt) (A : FuncId → Option (List AV → St → Option (AV × St))) (FT : FuncId → Option Func) (fuel : Nat) : Self :=
  Nat.rec (motive := fun _ => Self) (fun _ _ _ _ => none) (fun _ self => stepC P K (orElse A (callBy P FT self)) (anyRegion P K (orElse A (callBy P FT self))) self) fuel
noncomputable def callRun (P : Program) (K : Kt) (A : FuncId → Option (List AV → St → Option (AV × St))) (FT : FuncId → Option Func) (fuel : Nat) (f : FuncId) (axs : List AV) : Option (AV × St) := callBy P FT (runBy P K A FT fuel) f axs ⟨.nil, 0⟩
end Go.Proofs.YtffccgnhdpjlaaaGreatDoor.Ev
