/- Regions of open order, whole; and the runner's law: what it comes to is what a call does. -/
import Derived.Test.YtffccgnhdpjlaaaGreatDoorEvW
set_option linter.unusedVariables false
set_option linter.unusedSimpArgs false
namespace Go.Proofs.YtffccgnhdpjlaaaGreatDoor.Ev
open Go Go.RowKit
/-! ### counting what is left -/
theorem countP_drop {p q : Nat → Bool} {i : Nat} (hq : ∀ j, q j = true → p j = true) (hp : p i = true) (hqi : q i = false) : ∀ {l : List Nat}, i ∈ l → l.countP q < l.countP p
  | [], h => by cases h
  | x :: l, h => by
    have mono : l.countP q ≤ l.countP p := List.countP_mono_left fun j _ hj => hq j hj
    rw [List.countP_cons, List.countP_cons]
    by_cases e : i = x
    · subst e
      rw [hqi, hp]
      simp
      omega
    · have ih := countP_drop hq hp hqi (l := l) ((List.mem_cons.1 h).resolve_left e)
      have : (if q x = true then 1 else 0) ≤ (if p x = true then 1 else 0) := by
        cases hx : q x with
        | false => simp
        | true => rw [hq x hx]; simp
      omega
noncomputable def left (ops : Array Oper) (listed : Array Bool) : Nat := (List.range ops.size).countP fun j => !listed.getD j false
section
variable {P : Program} {K : Kt} {F : Doer} {n : Nat} {ops : Array Oper} {base : Nat} {ms : List Nat} {fin : Fin2} {Rs : Nat → Tr AV} {R : Tr AV} {s0 : Stg} {w0 w1 : World} {σ0 : Sg} {S : St} {ds : List Deferred}
theorem ready_nil (hS : StatF ops ms) {listed : Array Bool} (hsz : listed.size = ops.size) (h : Region.ready .any ops listed = []) : ∀ i, i < ops.size → listed.getD i false = true := by
  intro i
  induction i using Nat.strongRecOn with
  | _ i ih =>
    intro hi
    cases hL : listed.getD i false with
    | true => rfl
    | false =>
      exfalso
      have : i ∈ Region.ready .any ops listed := by
        rw [mem_ready]
        refine ⟨?_, ops[i], Array.getElem?_eq_getElem hi, fun e he hb => ?_⟩
        · have hl : i < listed.size := by omega
          rw [Array.getD_eq_getD_getElem?, Array.getElem?_eq_getElem hl] at hL ⊢
          exact hL
        · have hlt := hS.t1 i ops[i] (Array.getElem?_eq_getElem hi) e (by simpa using he) hb
          exact ih e.on hlt (by omega)
      rw [h] at this
      cases this
theorem any_ok (h0 : GOk K w0) (hE0 : EOk P K σ0) (C : Ctx P K F n ops base ms fin Rs R s0) (hb : base = S.nx) {Q : Exit → Act → World → Prop} (hQ : ∀ L a w, (∀ i, i < ops.size → L i = true) → Inv ops base n fin Rs w0 σ0 S w1 ds L a w → Q .normal a w) :
    ∀ (fuel : Nat) (listed : Array Bool) (a : Act) (w : World), listed.size = ops.size → Shut ops (fun j => listed.getD j false) → left ops listed ≤ fuel → Inv ops base n fin Rs w0 σ0 S w1 ds (fun j => listed.getD j false) a w → wpAny P .any ops Q fuel listed a w
  | 0, listed, a, w, hsz, hSh, hle, hI => by
    have hall : ∀ i, i < ops.size → listed.getD i false = true := fun i hi => by
      cases hL : listed.getD i false with
      | true => rfl
      | false =>
        exfalso
        have : 0 < left ops listed := List.countP_pos_iff.2 ⟨i, List.mem_range.2 hi, by rw [hL]; rfl⟩
        omega
    refine ⟨?_, hQ _ a w hall hI⟩
    cases hr : Region.ready .any ops listed with
    | nil => rfl
    | cons i l =>
      exfalso
      have hm : i ∈ Region.ready .any ops listed := by rw [hr]; exact List.mem_cons_self ..
      rw [mem_ready] at hm
      obtain ⟨h1, o, ho, -⟩ := hm
      have hi : i < ops.size := (Array.getElem?_eq_some_iff.1 ho).1
      have h2 := hall i hi
      have hl : i < listed.size := by omega
      rw [Array.getD_eq_getD_getElem?, Array.getElem?_eq_getElem hl] at h1 h2
      simp only [Option.getD_some] at h1 h2
      rw [h1] at h2
      cases h2
  | fuel + 1, listed, a, w, hsz, hSh, hle, hI => by
    refine ⟨fun hr => hQ _ a w (ready_nil C.stat hsz hr) hI, fun i hi => ?_⟩
    rw [mem_ready] at hi
    obtain ⟨h1, o, ho, h2⟩ := hi
    have hilt : i < ops.size := (Array.getElem?_eq_some_iff.1 ho).1
    have hl : i < listed.size := by omega
    have hLi : listed.getD i false = false := by
      rw [Array.getD_eq_getD_getElem?, Array.getElem?_eq_getElem hl] at h1 ⊢
      exact h1
    have hL : ∀ j, (listed.setIfInBounds i true).getD j false = true ↔ (listed.getD j false = true ∨ j = i) := fun j => by
      by_cases e : j = i
      · subst e
        simp [hl]
      · rw [getD_set_ne false (Ne.symm e)]
        simp [e]
    have hAh : Ahead (fun j => listed.getD j false) o.after.toList := fun e he hb => h2 e (by simpa using he) hb
    have hSh' : Shut ops (fun j => (listed.setIfInBounds i true).getD j false) := fun j q hq hj e he hbd => by
      refine (hL e.on).2 (Or.inl ?_)
      rcases (hL j).1 hj with h | rfl
      · exact hSh j q hq h e he hbd
      · rw [ho] at hq
        obtain rfl := Option.some.inj hq
        exact hAh e he hbd
    have hlt : left ops (listed.setIfInBounds i true) < left ops listed := by
      refine countP_drop (i := i) (fun j hj => ?_) (by rw [hLi]; rfl) (by rw [(hL i).2 (Or.inr rfl)]; rfl) (List.mem_range.2 hilt)
      cases hx : listed.getD j false with
      | false => rfl
      | true =>
        rw [(hL j).2 (Or.inl hx)] at hj
        cases hj
    exact hI.step h0 hE0 C hb ho hLi hL hSh hAh fun a' w' hI' => any_ok h0 hE0 C hb hQ fuel _ a' w' (by simpa using hsz) hSh' (by omega) hI'
end
theorem anyRegion_ok {P : Program} {K : Kt} {F : Doer} (hm : P.follows .mixedOrders = true) (hF : DoerOk P K F) : RegsOk P K (anyRegion P K F) := by
  intro n ops R S R' T h w0 σ a w id Q h0 hE hO hT hQ
  unfold anyRegion at h
  dsimp only at h
  cases hst : statRun ops.toList (mkMasks ops.toList []) ops.toList 0 with
  | false => rw [hst] at h; cases h
  | true =>
    rw [hst, cond_true] at h
    cases hr : rgRun P K F n ops S.nx (mkMasks ops.toList []) ops.toList 0 R ⟨0, 0, S.H, S.nx + ops.size⟩ [] [] with
    | none => rw [hr] at h; cases h
    | some fin =>
      rw [hr] at h
      dsimp only at h
      cases hA : addAl S.nx (Nat.shiftLeft 1 ops.size - 1) fin.s.M fin.al fin.s.C with
      | none => rw [hA] at h; cases h
      | some H =>
        rw [hA] at h
        simp only [Option.some.injEq, Prod.mk.injEq] at h
        obtain ⟨rfl, rfl⟩ := h
        have hz : ∀ j, bit 0 j = true → False := fun j hj => by rw [bit_zero] at hj; cases hj
        obtain ⟨Rs, hrun⟩ := rgRun_ok (P := P) (F := F) (n := n) (base := S.nx) ops.toList 0 R ⟨0, 0, S.H, S.nx + ops.size⟩ [] [] fin (by simp) (fun p hp => by cases hp) (fun j hj => (hz j hj).elim) hr
        have C : Ctx P K F n ops S.nx (mkMasks ops.toList []) fin Rs R ⟨0, 0, S.H, S.nx + ops.size⟩ := ⟨hF, statF hst, masks_ok ops, hrun⟩
        have hL0 : ∀ j, (Array.replicate ops.size false).getD j false = false := fun j => by
          rw [Array.getD_eq_getD_getElem?, Array.getElem?_replicate]
          split <;> rfl
        have start : Inv ops S.nx n fin Rs w0 σ S w a.defers (fun j => (Array.replicate ops.size false).getD j false) a { w with drawn := w.drawn + 1 } := by
          obtain ⟨pre, hpre⟩ := hrun.pre
          refine ⟨σ, 0, ⟨0, 0, S.H, S.nx + ops.size⟩, S.H.get, ?_, fun j hj => (hz j hj).elim, fun j _ hj => ?_, fun j hj => (hz j hj).elim, fun nm ob h => h, fun j ob _ hj => ?_, fun j hj hs => ?_, fun j hj _ => ?_, ⟨⟨hO.below.os, hO.below.tape, hO.below.output, hO.below.size, hO.below.block⟩, fun nm ob hn => ?_, hO.inj, fun nm B hs => ?_⟩, Nat.le_refl _, ⟨Sub.refl σ, Nat.le_refl _, fun k hk ho => ⟨rfl, ho⟩, fun _ _ h => h⟩, rfl, hT.1, fun t x hc => ?_⟩
          · rw [hpre, nth_suffix (by simp)]
            rfl
          · rw [hL0] at hj; cases hj
          · rw [hL0] at hj; cases hj
          · exfalso
            cases hq : σ (S.nx + j) with
            | none => exact hs hq
            | some B => have := hO.fresh _ _ hq; omega
          · cases hq : S.H.get (S.nx + j) with
            | none => rfl
            | some o =>
              obtain ⟨B, hB, -⟩ := hO.live _ _ hq
              have := hO.fresh _ _ hB
              omega
          · obtain ⟨B, b1, b2, b3, b4⟩ := hO.live nm ob hn
            exact ⟨B, b1, b2, b3, b4.same rfl⟩
          · have := hO.fresh nm B hs
            show nm < S.nx + ops.size
            omega
          · rcases hc with ⟨j, -, hj, -⟩ | ⟨-, h0⟩
            · have hj : (Array.replicate ops.size false).getD j false = true := hj
              rw [hL0] at hj; cases hj
            · rw [hrun.fst] at h0
              exact hT.2 t x h0
        refine wp_region_any hm (any_ok h0 hE C rfl (fun L a' w' hall hI => ?_) ops.size _ a _ (by simp) (fun j q hq hj => ?_) ?_ start)
        · obtain ⟨τ, m, s, g, I⟩ := hI
          have hlt := nth_lt I.at_
          have hm1 : m = fin.sts.length - 1 := by
            rcases Nat.lt_or_ge (m + 1) fin.sts.length with hlt' | hge
            · exfalso
              obtain ⟨t, ht⟩ : ∃ t, nth fin.sts (m + 1) = some t := by
                unfold nth
                exact ⟨_, List.getElem?_eq_getElem (by rw [List.length_reverse]; exact hlt')⟩
              obtain ⟨-, q, q1, q2⟩ := hrun.mono m s t (Nat.zero_le _) I.at_ ht
              have q3 := C.last ht q q2
              have q5 : q < ops.size := hrun.hd3 q q3
              have := I.h2 q q3 (hall q q5)
              rw [q1] at this
              cases this
            · omega
          have hs : s = fin.s := by
            have := I.at_
            rw [hm1, hrun.top] at this
            exact (Option.some.inj this).symm
          subst hs
          have hsub : ∀ nm ob, H.get nm = some ob → g nm = some ob := fun nm ob hn => by
            rcases addAl_get hA nm ob hn with h1 | ⟨j, h1, rfl, -, h4⟩
            · exact I.gC nm ob h1
            · exact I.gA j ob h1 (hall j (hrun.al3 _ h1)) h4
          have hTR : TR τ n fin.R a' := ⟨I.sz, fun t x hx => I.tm t x (by
            rw [← hrun.lst] at hx
            by_cases hd : ∃ j, dstOf ops j = some t
            · obtain ⟨j, hj⟩ := hd
              exact Or.inl ⟨j, hj, hall j (dst_lt hj), hx⟩
            · refine Or.inr ⟨fun j hj => absurd ⟨j, hj⟩ hd, ?_⟩
              rw [← Rs_before C.steps ops.size (Nat.le_refl _) fun k _ hk => hd ⟨k, hk⟩]
              exact hx)⟩
          exact hQ a' w' τ (fun hd => by rw [I.df]; exact hd) hTR (I.okF.ok hsub) ⟨I.frF.sub, I.frF.size, fun k hk ho => ⟨(I.frF.keep k hk ho).1, fun nm ob B h1 h2 => (I.frF.keep k hk ho).2 nm ob B (hsub nm ob h1) h2⟩, by have := I.nx; show S.nx ≤ fin.s.nx; omega, I.frF.old⟩
        · have hj : (Array.replicate ops.size false).getD j false = true := hj
          rw [hL0] at hj
          cases hj
        · unfold left
          exact Nat.le_trans List.countP_le_length (by simp)
/-! ### the whole -/
theorem runBy_ok {P : Program} {K : Kt} (hm : P.follows .mixedOrders = true) (hI : IdlOk P K) {A : FuncId → Option (List AV → St → Option (AV × St))} {FT : FuncId → Option Func} (hA : ∀ f g, A f = some g → DoerOk P K fun f' axs S => bif Nat.beq f' f then g axs S else none) (hFT : ∀ f fn, FT f = some fn → P.funcs[f]? = some fn ∧ (fn.name == "runtime.NumGoroutine") = false) :
    ∀ fuel, SelfOk P K (runBy P K A FT fuel)
  | 0 => fun n t R S o h => by cases h
  | fuel + 1 => by
    have hS := runBy_ok hm hI hA hFT fuel
    have hF := orElse_ok hA (callBy_ok hFT hS)
    exact stepC_ok hI hF (anyRegion_ok hm hF) hS
/-- The empty state, at any world. -/
theorem Ok.empty (w : World) : Ok w (fun _ => none) ⟨.nil, 0⟩ w :=
  ⟨Below.refl _ _, (fun n o h => by rw [Tr.get_nil] at h; cases h), (fun n m o o' B B' h => by rw [Tr.get_nil] at h; cases h), (fun n B h => by cases h)⟩
/-- A state in which k values have names, and no block has. -/
theorem Ok.start (w : World) (k : Nat) (v : Nat → Value) : Ok w (fun n => if n < k then some ⟨0, 0, 0, v n⟩ else none) ⟨.nil, k⟩ w :=
  ⟨Below.refl _ _, (fun n o h => by rw [Tr.get_nil] at h; cases h), (fun n m o o' B B' h => by rw [Tr.get_nil] at h; cases h), fun n B h => by
    by_cases e : n < k
    · exact e
    · rw [if_neg e] at h; cases h⟩
theorem EOk.none {P : Program} {K : Kt} {σ : Sg} (h1 : ∀ n, K.sy n = none) (h2 : ∀ op x y, K.orc op x y = none) (h3 : ∀ t x, K.ln t x = none) : EOk P K σ := fun τ _ =>
  ⟨(fun n v h => by rw [h1] at h; cases h), (fun op x y r h => by rw [h2] at h; cases h), (fun t x r h => by rw [h3] at h; cases h)⟩
/-- A closed call. -/
theorem callRun_ok {P : Program} {K : Kt} (hm : P.follows .mixedOrders = true) (hI : IdlOk P K) {A : FuncId → Option (List AV → St → Option (AV × St))} {FT : FuncId → Option Func} (hA : ∀ f g, A f = some g → DoerOk P K fun f' axs S => bif Nat.beq f' f then g axs S else none) (hFT : ∀ f fn, FT f = some fn → P.funcs[f]? = some fn ∧ (fn.name == "runtime.NumGoroutine") = false)
    {fuel f : Nat} {b : Bool} {T : St} (h : callRun P K A FT fuel f [] = some (.e (.lf (.b b)), T)) (w : World) (h0 : GOk K w) (hE : EOk P K fun _ => none) :
    Calls P f #[] w fun e w' => e = .returned (.bool b) ∧ Below w.heap.size w w' := by
  refine Calls.mono (callBy_calls hFT (runBy_ok hm hI hA hFT fuel) f [] ⟨.nil, 0⟩ _ T h w _ w [] h0 hE (Ok.empty w) trivial).2 fun e w' he => ?_
  obtain ⟨u, rfl, τ, k1, k2, k3⟩ := he
  exact ⟨by rw [show u = _ from k1], k2.below⟩
end Go.Proofs.YtffccgnhdpjlaaaGreatDoor.Ev
