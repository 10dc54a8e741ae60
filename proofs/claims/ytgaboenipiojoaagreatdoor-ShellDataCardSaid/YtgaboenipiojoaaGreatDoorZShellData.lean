/- The row of the law ShellData, out of its walks and its plain law. -/
import Derived.Test.YtgaboenipiojoaaGreatDoorMShellData0
import Derived.Defers
import Derived.Recover
import Derived.Laws.Tables
import Derived.Great.BuildSlice
import Derived.MapKept
import Derived.Lib.ItoaLen
import Derived.RegionTactic
import Derived.Lib.TrimAscii
import Derived.Test.YtgaboenipiojoaaGreatDoorRows
import Derived.Lib.LaidU8
import Derived.Lib.LaidU8T
import Derived.Lay
import Derived.Handed
import Derived.SizedLaws
import Derived.LaidLaws
import Derived.Shelf.Vars
import Derived.LaidHandle
import Derived.Stop.Joined
import Derived.Deep.Slices
import Derived.Deep.Fields
import Derived.ChangeSame
import Derived.Test.YtgaboenipiojoaaGreatDoorTie
import Derived.Test.YtgaboenipiojoaaGreatDoorCards
import Derived.WalkKit
import Derived.ProofKit
import Derived.OpenShut
import Derived.ShutString
import Derived.ChangeOld
import Derived.Below
import Derived.Lib.SmallJoins
section
/- cmd's reader: number, onOff, beacon. -/
set_option linter.unusedVariables false
set_option linter.unusedSimpArgs false
namespace Go.Proofs.YtgaboenipiojoaaGreatDoor.QAll
open Go.RowKit Go.Proofs.YtgaboenipiojoaaGreatDoorW.PrintWords Go.Proofs.YtgaboenipiojoaaGreatDoorW.PrintLast Go.Proofs.YtgaboenipiojoaaGreatDoorW.PrintMore
set_option maxHeartbeats 2000000 in
set_option maxRecDepth 100000 in
theorem number_calls (w0 : World) (g : Nat) (s : ByteArray) (lo hi : Int) (hs : s.size ≤ 1000000) (w : World) (h0 : At0 w0 g s w) :
    Calls Tryz.prog 67 #[.pointer (some ⟨g, 0, none⟩), .int .i64 lo, .int .i64 hi] w (RdP g s.size (fun a v _ => v = encI a) (Pure.numN lo hi (Pure.nb s.data.toList)) w) := by
  have H0 := Aside0.mk h0
  clear h0
  have HW := Aside0.mk (word_calls g s hs _ H0.out.a)
  cases hw : Pure.wordN (Pure.nb s.data.toList) with
  | bad k =>
    have HX := Aside0.mk (show Pure.numN lo hi (Pure.nb s.data.toList) = .bad k by simp only [Pure.numN, hw, Pure.Rd.bind])
    rw [hw] at HW
    clear hw
    go_enter Tryz.func67, Tryz.ntmps67
    go_wp2_with (fail)
    refine HW.out.mono ?_
    rintro e w1 ⟨hk, he⟩
    obtain rfl : e = wrongE k := he
    have HK := Aside0.mk hk
    clear hk
    go_wp2
    refine ⟨rfl, HK.out, ?_⟩
    rw [HX.out]
  | got a r =>
    have HX1 := Aside0.mk (show Pure.numM a lo hi = none → Pure.numN lo hi (Pure.nb s.data.toList) = .bad 1 from fun hc => by simp only [Pure.numN, hw, Pure.Rd.bind, hc])
    have HX2 := Aside0.mk (show ∀ c, Pure.numM a lo hi = some c → Pure.numN lo hi (Pure.nb s.data.toList) = .got c r from fun c hc => by simp only [Pure.numN, hw, Pure.Rd.bind, hc])
    rw [hw] at HW
    clear hw
    go_enter Tryz.func67, Tryz.ntmps67
    go_wp2_with (fail)
    refine HW.out.mono ?_
    rintro e w1 ⟨hk, v, s', rfl, ⟨t, rfl, ht, hts⟩, ha, hr, hs'⟩
    have H2 := Aside0.mk (H0.out.kb hk ha)
    have HK := Aside0.mk hk
    have HC := Aside0.mk (numbered_calls t lo hi (by omega) w1 H2.out.env)
    rw [ht] at HC
    have HF := Aside0.mk (And.intro hr hs')
    clear hk ha hr hs'
    go_wp2_with (fail)
    refine HC.out.mono ?_
    rintro e w2 ⟨hb2, he⟩
    have H3 := Aside0.mk (H2.out.below hb2)
    have HK3 := Aside0.mk (HK.out.trans (KB.of_below hb2))
    clear hb2
    cases hc : Pure.numM a lo hi with
    | none =>
      rw [hc] at he
      obtain rfl : e = wrongE 1 := he
      have HX := Aside0.mk (HX1.out hc)
      clear hc HX1 HX2
      go_wp2
      refine ⟨rfl, HK3.out, ?_⟩
      rw [HX.out]
    | some c =>
      rw [hc] at he
      obtain rfl : e = .returned (encI c) := he
      have HX := Aside0.mk (HX2.out c hc)
      clear hc HX1 HX2
      unfold encI
      go_wp2
      go_ret
      refine ⟨HK3.out, ?_⟩
      rw [HX.out]
      exact ⟨_, s', rfl, rfl, H3.out.a, HF.out.1, HF.out.2⟩
theorem up_str {t : ByteArray} {a l : List UInt8} (ht : t.data.toList = a) : (upN t).toList = l ↔ Pure.upM a = l := by
  rw [Go.ByteArray.toList_eq]
  unfold upN
  rw [ht]
theorem up_const {t : ByteArray} {a l : List UInt8} (ht : t.data.toList = a) (h : Pure.upM a = l) : upN t = ⟨l.toArray⟩ := by
  unfold upN
  rw [ht, h]
set_option maxHeartbeats 2000000 in
set_option maxRecDepth 100000 in
theorem onOff_calls (w0 : World) (g : Nat) (s : ByteArray) (hs : s.size ≤ 1000000) (w : World) (h0 : At0 w0 g s w) :
    Calls Tryz.prog 66 #[.pointer (some ⟨g, 0, none⟩)] w (RdP g s.size (fun a v _ => v = encI a) (Pure.onN (Pure.nb s.data.toList)) w) := by
  have H0 := Aside0.mk h0
  clear h0
  have HW := Aside0.mk (word_calls g s hs _ H0.out.a)
  cases hw : Pure.wordN (Pure.nb s.data.toList) with
  | bad k =>
    have HX := Aside0.mk (show Pure.onN (Pure.nb s.data.toList) = .bad k by simp only [Pure.onN, hw, Pure.Rd.bind])
    rw [hw] at HW
    clear hw
    go_enter Tryz.func66, Tryz.ntmps66
    go_wp2_with (fail)
    refine HW.out.mono ?_
    rintro e w1 ⟨hk, he⟩
    obtain rfl : e = wrongE k := he
    have HK := Aside0.mk hk
    clear hk
    go_wp2
    refine ⟨rfl, HK.out, ?_⟩
    rw [HX.out]
  | got a r =>
    have HXX := Aside0.mk (show Pure.onN (Pure.nb s.data.toList) = if Pure.upM a = [79, 78] then .got 1 r else if Pure.upM a = [79, 70, 70] then .got 0 r else .bad 2 by simp only [Pure.onN, hw, Pure.Rd.bind])
    rw [hw] at HW
    clear hw
    go_enter Tryz.func66, Tryz.ntmps66
    go_wp2_with (fail)
    refine HW.out.mono ?_
    rintro e w1 ⟨hk, v, s', rfl, ⟨t, rfl, ht, hts⟩, ha, hr, hs'⟩
    have H2 := Aside0.mk (H0.out.kb hk ha)
    have HK := Aside0.mk hk
    have HC := Aside0.mk (upper_calls t (by omega) w1 H2.out.env)
    have HF := Aside0.mk (And.intro hr hs')
    clear hk ha hr hs'
    by_cases h1 : Pure.upM a = [79, 78]
    · have HX := Aside0.mk (show Pure.onN (Pure.nb s.data.toList) = .got 1 r by rw [HXX.out, if_pos h1])
      rw [up_const ht h1] at HC
      clear h1 HXX
      go_wp2_with (fail)
      refine HC.out.mono ?_
      rintro e w2 ⟨rfl, hb2⟩
      have H3 := Aside0.mk (H2.out.below hb2)
      have HK3 := Aside0.mk (HK.out.trans (KB.of_below hb2))
      clear hb2
      go_wp2
      go_ret
      refine ⟨HK3.out, ?_⟩
      rw [HX.out]
      exact ⟨_, s', rfl, rfl, H3.out.a, HF.out.1, HF.out.2⟩
    · by_cases h2 : Pure.upM a = [79, 70, 70]
      · have HX := Aside0.mk (show Pure.onN (Pure.nb s.data.toList) = .got 0 r by rw [HXX.out, if_neg h1, if_pos h2])
        rw [up_const ht h2] at HC
        clear h1 h2 HXX
        go_wp2_with (fail)
        refine HC.out.mono ?_
        rintro e w2 ⟨rfl, hb2⟩
        have H3 := Aside0.mk (H2.out.below hb2)
        have HK3 := Aside0.mk (HK.out.trans (KB.of_below hb2))
        clear hb2
        go_wp2
        go_ret
        refine ⟨HK3.out, ?_⟩
        rw [HX.out]
        exact ⟨_, s', rfl, rfl, H3.out.a, HF.out.1, HF.out.2⟩
      · have HX := Aside0.mk (show Pure.onN (Pure.nb s.data.toList) = .bad 2 by rw [HXX.out, if_neg h1, if_neg h2])
        have n1 : ((upN t).toList == [79, 78]) = false := beq_eq_false_iff_ne.2 (fun q => h1 ((up_str ht).1 q))
        have n2 : ((upN t).toList == [79, 70, 70]) = false := beq_eq_false_iff_ne.2 (fun q => h2 ((up_str ht).1 q))
        clear h1 h2 HXX
        go_wp2_with (fail)
        refine HC.out.mono ?_
        rintro e w2 ⟨rfl, hb2⟩
        have H3 := Aside0.mk (H2.out.below hb2)
        have HK3 := Aside0.mk (HK.out.trans (KB.of_below hb2))
        clear hb2
        go_wp2
        refine ⟨rfl, HK3.out, ?_⟩
        rw [HX.out]
set_option maxHeartbeats 4000000 in
set_option maxRecDepth 100000 in
theorem beacon_calls (w0 : World) (g : Nat) (s : ByteArray) (hs : s.size ≤ 1000000) (w : World) (h0 : At0 w0 g s w) :
    Calls Tryz.prog 64 #[.pointer (some ⟨g, 0, none⟩)] w (RdP g s.size (fun a v _ => ∃ x : ByteArray, v = .tuple #[.int .i64 a.1, .string x] ∧ x.data.toList = a.2) (Pure.beaN (Pure.nb s.data.toList)) w) := by
  have H0 := Aside0.mk h0
  clear h0
  have HW := Aside0.mk (word_calls g s hs _ H0.out.a)
  cases hw : Pure.wordN (Pure.nb s.data.toList) with
  | bad k =>
    have HX := Aside0.mk (show Pure.beaN (Pure.nb s.data.toList) = .bad k by simp only [Pure.beaN, hw, Pure.Rd.bind])
    rw [hw] at HW
    clear hw
    go_enter Tryz.func64, Tryz.ntmps64
    go_wp2_with (fail)
    refine HW.out.mono ?_
    rintro e w1 ⟨hk, he⟩
    obtain rfl : e = wrongE k := he
    have HK := Aside0.mk hk
    clear hk
    go_wp2
    refine ⟨rfl, HK.out, ?_⟩
    rw [HX.out]
  | got a r =>
    have HXX := Aside0.mk (show Pure.upM a = [79, 70, 70] → Pure.beaN (Pure.nb s.data.toList) = .got (0, []) r from fun hc => by simp only [Pure.beaN, hw, Pure.Rd.bind, if_pos hc])
    have HX1 := Aside0.mk (show ¬ Pure.upM a = [79, 70, 70] → Pure.numM a 1 10000 = none → Pure.beaN (Pure.nb s.data.toList) = .bad 1 from fun hc hn => by simp only [Pure.beaN, hw, Pure.Rd.bind, if_neg hc, hn])
    have HX2 := Aside0.mk (show ¬ Pure.upM a = [79, 70, 70] → ∀ v, Pure.numM a 1 10000 = some v → Pure.beaN (Pure.nb s.data.toList) = (Pure.textN r).bind fun t q => .got (v, t) q from fun hc v hn => by simp only [Pure.beaN, hw, Pure.Rd.bind, if_neg hc, hn])
    rw [hw] at HW
    clear hw
    go_enter Tryz.func64, Tryz.ntmps64
    go_wp2_with (fail)
    refine HW.out.mono ?_
    rintro e w1 ⟨hk, v, s', rfl, ⟨t, rfl, ht, hts⟩, ha, hr, hs'⟩
    have H2 := Aside0.mk (H0.out.kb hk ha)
    have HK := Aside0.mk hk
    have HC := Aside0.mk (upper_calls t (by omega) w1 H2.out.env)
    have HF := Aside0.mk (And.intro hr hs')
    clear hk ha hr hs'
    by_cases h2 : Pure.upM a = [79, 70, 70]
    · have HX := Aside0.mk (HXX.out h2)
      rw [up_const ht h2] at HC
      clear h2 HXX HX1 HX2
      go_wp2_with (fail)
      refine HC.out.mono ?_
      rintro e w2 ⟨rfl, hb2⟩
      have H3 := Aside0.mk (H2.out.below hb2)
      have HK3 := Aside0.mk (HK.out.trans (KB.of_below hb2))
      clear hb2
      go_wp2
      go_ret2
      refine ⟨HK3.out, ?_⟩
      rw [HX.out]
      exact ⟨_, s', rfl, ⟨_, rfl, rfl⟩, H3.out.a, HF.out.1, HF.out.2⟩
    · have n2 : ((upN t).toList == [79, 70, 70]) = false := beq_eq_false_iff_ne.2 (fun q => h2 ((up_str ht).1 q))
      have HQ1 := Aside0.mk (HX1.out h2)
      have HQ2 := Aside0.mk (HX2.out h2)
      clear h2 HXX HX1 HX2
      go_wp2_with (fail)
      refine HC.out.mono ?_
      rintro e w2 ⟨rfl, hb2⟩
      have H3 := Aside0.mk (H2.out.below hb2)
      have HK3 := Aside0.mk (HK.out.trans (KB.of_below hb2))
      clear hb2
      have HN := Aside0.mk (numbered_calls t 1 10000 (by omega) w2 H3.out.env)
      rw [ht] at HN
      go_wp2_with (fail)
      refine (bounds_some 6 1 10000 rfl _).mono ?_
      rintro e w3 ⟨rfl, rfl⟩
      go_wp2_with (fail)
      refine HN.out.mono ?_
      rintro e w3 ⟨hb3, he⟩
      have H4 := Aside0.mk (H3.out.below hb3)
      have HK4 := Aside0.mk (HK3.out.trans (KB.of_below hb3))
      clear hb3
      cases hc : Pure.numM a 1 10000 with
      | none =>
        rw [hc] at he
        obtain rfl : e = wrongE 1 := he
        have HX := Aside0.mk (HQ1.out hc)
        clear hc HQ1 HQ2
        go_wp2
        refine ⟨rfl, HK4.out, ?_⟩
        rw [HX.out]
      | some c =>
        rw [hc] at he
        obtain rfl : e = .returned (encI c) := he
        have HX := Aside0.mk (HQ2.out c hc)
        clear hc HQ1 HQ2
        unfold encI
        have HT := Aside0.mk (text_calls g s' (by have := HF.out.2; omega) _ H4.out.a)
        rw [HF.out.1] at HT
        go_wp2_with (fail)
        refine HT.out.mono ?_
        rintro e w4 ⟨hk4, he⟩
        have HK5 := Aside0.mk (HK4.out.trans hk4)
        clear hk4
        cases ht5 : Pure.textN r with
        | bad k =>
          rw [ht5] at he
          obtain rfl : e = wrongE k := he
          have HY := Aside0.mk (show Pure.beaN (Pure.nb s.data.toList) = .bad k by rw [HX.out, ht5]; rfl)
          clear ht5
          go_wp2
          refine ⟨rfl, HK5.out, ?_⟩
          rw [HY.out]
        | got x q =>
          rw [ht5] at he
          obtain ⟨v, s5, rfl, ⟨y, rfl, hy, _⟩, ha5, hr5, hs5⟩ := he
          have HY := Aside0.mk (show Pure.beaN (Pure.nb s.data.toList) = .got (c, x) q by rw [HX.out, ht5]; rfl)
          clear ht5
          go_wp2
          go_ret2
          refine ⟨HK5.out, ?_⟩
          rw [HY.out]
          exact ⟨_, s5, rfl, ⟨y, rfl, hy⟩, ha5, hr5, by have := HF.out.2; omega⟩
end Go.Proofs.YtgaboenipiojoaaGreatDoor.QAll
end

section
/- cmd's reader: via, the digipeaters. -/
set_option linter.unusedVariables false
set_option linter.unusedSimpArgs false
namespace Go.Proofs.YtgaboenipiojoaaGreatDoor.QAll
open Go.RowKit Go.Proofs.YtgaboenipiojoaaGreatDoorW.PrintWords Go.Proofs.YtgaboenipiojoaaGreatDoorW.PrintLast Go.Proofs.YtgaboenipiojoaaGreatDoorW.PrintMore
theorem info29 : (Tryz.prog.info? 29).map (fun i => (i.zero, i.size, i.bytes)) = some (some (.agg #[(.string ⟨#[]⟩), (.int .i64 0)]), 2, 24) := by kernel_rfl
theorem fieldsGo_size : ∀ (l cur : List UInt8), ∀ x ∈ Pure.fieldsGo l cur, x.length ≤ l.length + cur.length
  | [], cur, x, hx => by
    unfold Pure.fieldsGo at hx
    split at hx
    · cases hx
    · obtain rfl := List.mem_singleton.1 hx
      omega
  | c :: l, cur, x, hx => by
    unfold Pure.fieldsGo at hx
    simp only [List.length_cons]
    split at hx
    · split at hx
      · have := fieldsGo_size l [] x hx
        simp only [List.length_nil] at this
        omega
      · rcases List.mem_cons.1 hx with rfl | h
        · omega
        · have := fieldsGo_size l [] x h
          simp only [List.length_nil] at this
          omega
    · have := fieldsGo_size l (cur ++ [c]) x hx
      rw [List.length_append, List.length_singleton] at this
      omega
theorem fields_sizes (s x : ByteArray) (h : x ∈ Lib.goFieldsP Pure.sepR s) : x.size ≤ s.size := by
  have h1 : x.data.toList ∈ Pure.fieldsB s.data.toList := by
    rw [← Pure.fields_bytes]
    exact List.mem_map.2 ⟨x, h, rfl⟩
  have h2 := fieldsGo_size _ _ _ h1
  simpa using h2
/-- The digipeaters in memory. -/
def viaP (w0 w : World) (a : List (ByteArray × Int)) (v : Value) (w' : World) : Prop :=
  ∃ l : List S29, a = l.map (fun x => (x.f0, x.f1)) ∧ Kd.R k29 29 w' w0.heap.size (fun k => w.heap.size ≤ k) v l
set_option maxHeartbeats 4000000 in
set_option maxRecDepth 100000 in
theorem via_calls (w0 : World) (g : Nat) (s : ByteArray) (hs : s.size ≤ 1000000) (w : World) (h0 : At0 w0 g s w) :
    Calls Tryz.prog 63 #[.pointer (some ⟨g, 0, none⟩)] w (RdP g s.size (viaP w0 w) (Pure.viaN (Pure.nb s.data.toList)) w) := by
  have H0 := Aside0.mk h0
  clear h0
  have hu29 := Tryz.underlying29
  have HW := Aside0.mk (word_calls g s hs _ H0.out.a)
  cases hw : Pure.wordN (Pure.nb s.data.toList) with
  | bad k =>
    have HX := Aside0.mk (show Pure.viaN (Pure.nb s.data.toList) = .bad k by simp only [Pure.viaN, hw, Pure.Rd.bind])
    rw [hw] at HW
    clear hw
    go_enter Tryz.func63, Tryz.ntmps63
    go_wp2_with (fail)
    refine HW.out.mono ?_
    rintro e w1 ⟨hk, he⟩
    obtain rfl : e = wrongE k := he
    have HK := Aside0.mk hk
    clear hk
    go_wp2
    refine ⟨rfl, HK.out, ?_⟩
    rw [HX.out]
  | got a r =>
    have HXX := Aside0.mk (show Pure.viaN (Pure.nb s.data.toList) = if Pure.begN [86, 73, 65] a = true then (if Pure.fieldsB r = [] then .bad 4 else Pure.viaGo (Pure.fieldsB r) 0 []) else .bad 2 by simp only [Pure.viaN, hw, Pure.Rd.bind])
    rw [hw] at HW
    clear hw
    go_enter Tryz.func63, Tryz.ntmps63
    go_wp2_with (fail)
    refine HW.out.mono ?_
    rintro e w1 ⟨hk, v, s', rfl, ⟨t, rfl, ht, hts⟩, ha, hr, hs'⟩
    have H2 := Aside0.mk (H0.out.kb hk ha)
    have HK := Aside0.mk hk
    have HC := Aside0.mk (begins_calls ⟨#[86, 73, 65]⟩ t (by omega) w1 H2.out.env)
    have HF := Aside0.mk (And.intro hr hs')
    rw [ht] at HC
    clear hk ha hr
    have HFB := Aside0.mk (show Pure.fieldsB r = (Lib.goFieldsP Pure.sepR s').map (·.data.toList) by rw [← HF.out.1, ← Pure.fields_nb, Pure.fields_bytes])
    cases hbg : Pure.begN [86, 73, 65] a with
    | false =>
      have HX := Aside0.mk (show Pure.viaN (Pure.nb s.data.toList) = .bad 2 by rw [HXX.out, hbg]; rfl)
      rw [show Pure.begN (⟨#[86, 73, 65]⟩ : ByteArray).data.toList a = false from hbg] at HC
      clear hbg HXX
      go_wp2_with (fail)
      refine HC.out.mono ?_
      rintro e w2 ⟨rfl, hb2⟩
      have HK3 := Aside0.mk (HK.out.trans (KB.of_below hb2))
      clear hb2
      go_wp2_with (fail)
      refine (must_bad 2 _).mono ?_
      rintro e w3 ⟨rfl, rfl⟩
      go_wp2
      refine ⟨rfl, HK3.out, ?_⟩
      rw [HX.out]
    | true =>
      have HX1 := Aside0.mk (show Pure.viaN (Pure.nb s.data.toList) = if Pure.fieldsB r = [] then .bad 4 else Pure.viaGo (Pure.fieldsB r) 0 [] by rw [HXX.out, hbg]; rfl)
      rw [show Pure.begN (⟨#[86, 73, 65]⟩ : ByteArray).data.toList a = true from hbg] at HC
      clear hbg HXX
      go_wp2_with (fail)
      refine HC.out.mono ?_
      rintro e w2 ⟨rfl, hb2⟩
      have H3 := Aside0.mk (H2.out.below hb2)
      have HK3 := Aside0.mk (HK.out.trans (KB.of_below hb2))
      clear hb2
      have HFF := Aside0.mk (Tryz.strings_FieldsFunc 93 #[] (enters_of Tryz.func93 (by kernel_rfl) rfl) Pure.sepR s' w2 (by omega) (fun W x hx _ => sep1_calls x hx W))
      obtain ⟨hc2, hf2⟩ := H3.out.a.cell
      go_wp2_with (fail)
      refine (must_ok 2 _).mono ?_
      rintro e w2' ⟨rfl, rfl⟩
      go_wp2_with (fail)
      refine HFF.out.mono ?_
      rintro e w3 ⟨A, rfl, hA, hown, hb3⟩
      have HSz := Aside0.mk (fun x hx => fields_sizes s' x hx)
      generalize Lib.goFieldsP Pure.sepR s' = ws at HFB HSz hown ⊢
      have H4 := Aside0.mk (H3.out.below hb3)
      have HK4 := Aside0.mk (HK3.out.trans (KB.of_below hb3))
      have hwz : w.heap.size ≤ w2'.heap.size := HK3.out.size
      have hgw : g < w.heap.size := H0.out.a.lt
      have HR3 := Aside0.mk (show Kd.R Kd.string 9 w3 w2'.heap.size (fun k => k = A) (.slice (some ⟨A, 0, none⟩) ws.length ws.length) ws from Kd.R_of_own (xs := ws) hown (fun k hk => by simpa [Value.ownBlock, eq_comm] using hk))
      clear hown hb3 HFF
      obtain ⟨hc3, hf3⟩ := H4.out.a.cell
      by_cases hn : ws = []
      · subst hn
        have HX := Aside0.mk (show Pure.viaN (Pure.nb s.data.toList) = .bad 4 by rw [HX1.out, HFB.out]; rfl)
        go_wp2_with (fail)
        refine (must_bad 4 _).mono ?_
        rintro e w5 ⟨rfl, rfl⟩
        go_wp2
        refine ⟨rfl, HK4.out.trans (KB.set g _ _), ?_⟩
        rw [HX.out]
      · have hn0 : 0 < ws.length := by
          cases ws with
          | nil => exact absurd rfl hn
          | cons => simp
        have HX := Aside0.mk (show Pure.viaN (Pure.nb s.data.toList) = Pure.viaGo (ws.map (·.data.toList)) 0 [] by
          rw [HX1.out, HFB.out, if_neg (by simpa using hn)])
        clear HX1 HFB hn
        go_wp2_with (fail)
        refine (must_ok 4 _).mono ?_
        rintro e w5 ⟨rfl, hw5⟩
        have H5 := Aside0.mk (show At0 w0 g ⟨#[]⟩ w5 by rw [hw5]; exact H4.out.kb (KB.set g _ _) (H4.out.a.set _))
        have HK5 := Aside0.mk (show KB g w w5 by rw [hw5]; exact HK4.out.trans (KB.set g _ _))
        have HV5 : Aside0 (Kd.V Kd.string 9 w5 0 (fun k => w.heap.size ≤ k ∧ k < w5.heap.size) (.slice (some ⟨A, 0, none⟩) ws.length ws.length) ws) := by
          refine ⟨?_⟩
          have hr := Kd.R_far HR3.out (p := ⟨g, 0, none⟩) (fun k hk => by have := hk; show k ≠ g; omega) (.string ⟨#[]⟩)
          rw [← hw5] at hr
          exact Kd.V_mono (Kd.R_V (Kd.R_bound hr)) (fun k hk => ⟨by have := hk.1; omega, hk.2.2.1⟩)
        clear hw5 H4 HK4 HR3 hc3 hf3 hc2 hf2
        obtain ⟨B, hB⟩ : ∃ B, w5.heap.size = B := ⟨_, rfl⟩
        rw [hB] at HV5
        have hwB : w.heap.size ≤ B := by rw [← hB]; exact HK5.out.size
        have HBs := Aside0.mk (show B ≤ w5.heap.size by omega)
        have HN : Aside0 (Kd.R k29 29 w5 w0.heap.size (fun k => B ≤ k) (.slice none 0 0) ([] : List S29)) := ⟨Kd.R_nil _ _ _ _ _⟩
        have hg0 : w0.heap.size ≤ g := H0.out.hg
        clear hB
        go_wp2_with (fail)
        go_loopw [3, 26] (fun v3 v26 wr => ∃ (i : Nat) (l : List S29), i ≤ ws.length ∧ l.length = i ∧ v26 = .int .i64 i ∧ Aside0 (Pure.viaN (Pure.nb s.data.toList) = Pure.viaGo ((ws.drop i).map (·.data.toList)) i (l.map (fun x => (x.f0, x.f1)))) ∧ Aside0 (Kd.R k29 29 wr w0.heap.size (fun k => B ≤ k) v3 l) ∧ Aside0 (At0 w0 g ⟨#[]⟩ wr) ∧ Aside0 (KB g w wr) ∧ Aside0 (Kd.V Kd.string 9 wr 0 (fun k => w.heap.size ≤ k ∧ k < B) (.slice (some ⟨A, 0, none⟩) ws.length ws.length) ws) ∧ Aside0 (B ≤ wr.heap.size)) (fun _ v26 _ => ws.length - (intOf v26).toNat)
        case atStart => exact ⟨0, [], by omega, rfl, rfl, HX, HN, H5, HK5, HV5, HBs⟩
        case round =>
          clear HX HN H5 HK5 HV5 HBs
          obtain ⟨i, l, hi, hli, rfl, HX, HR1, HQr, HKr, HVr, HBr⟩ := hrel
          by_cases hlt : i < ws.length
          · obtain ⟨hn1, hn2, hcj⟩ := Kd.V_reads' HVr.out
            obtain ⟨ad', hA', hx⟩ := Kd.at_string hcj (i : Int) (by omega) (by omega)
            obtain rfl := Option.some.inj hA'
            rw [Int.toNat_natCast, show rdOf ByteArray.empty ws (i : Int) = ws[i]'hlt by (unfold rdOf; rw [Int.toNat_natCast, List.getD_eq_getElem?_getD, List.getElem?_eq_getElem hlt]; rfl)] at hx
            have hsi : (ws[i]'hlt).size ≤ s'.size := HSz.out _ (List.getElem_mem hlt)
            have hdr : ws.drop i = ws[i]'hlt :: ws.drop (i + 1) := List.drop_eq_getElem_cons hlt
            have HD := Aside0.mk hdr
            clear hn1 hn2 hcj hdr
            generalize ws[i]'hlt = x at hx hsi HD ⊢
            have hx2 : wr.cell? ⟨A, i, none⟩ = some (.string x) := by
              by_cases i0 : i = 0
              · subst i0; simpa [Addr.add] using hx
              · simpa [Addr.add, i0] using hx
            clear hx
            have HCA := Aside0.mk (called_calls x (by omega) wr HQr.out.env)
            go_wp2_with (fail)
            refine HCA.out.mono ?_
            rintro e w7 ⟨hb7, he⟩
            cases hc : Pure.callM x.data.toList with
            | none =>
              rw [hc] at he
              obtain rfl : e = wrongE 12 := he
              have HZ := Aside0.mk (show Pure.viaN (Pure.nb s.data.toList) = .bad 12 by rw [HX.out, HD.out, List.map_cons]; unfold Pure.viaGo; rw [hc])
              have HK7 := Aside0.mk (HKr.out.trans (KB.of_below hb7))
              clear hc hb7
              go_wp2
              refine ⟨rfl, HK7.out, ?_⟩
              rw [HZ.out]
            | some c =>
              rw [hc] at he
              obtain rfl : e = .returned (encC c) := he
              unfold encC
              have hb8 : Below wr.heap.size wr (w7.alloc (.cells #[.string c.1, .int .i64 c.2] 29 (0, 0))) := hb7.alloc hb7.size _
              have HQ8 := Aside0.mk (HQr.out.below hb8)
              have HK8 := Aside0.mk (HKr.out.trans (KB.of_below hb8))
              have HR8 := Aside0.mk (Kd.R_below HR1.out hb8)
              have HV8 := Aside0.mk (Kd.V_below HVr.out hb8)
              have HB8 := Aside0.mk (Nat.le_trans HBr.out hb8.size)
              have HG8 := Aside0.mk (heap_alloc_new w7 (.cells #[.string c.1, .int .i64 c.2] 29 (0, 0)))
              have HS := Aside0.mk (show Pure.viaN (Pure.nb s.data.toList) = if i < 8 then Pure.viaGo ((ws.drop (i + 1)).map (·.data.toList)) (i + 1) (l.map (fun x => (x.f0, x.f1)) ++ [c]) else .bad 11 by
                rw [HX.out, HD.out, List.map_cons]
                conv => lhs; unfold Pure.viaGo
                rw [hc])
              clear hc HX HD HQr HKr HR1 HVr HBr hx2 HCA
              by_cases h8 : i < 8
              · have h8' : (i : Int) < 8 := by omega
                have HZ := Aside0.mk (show Pure.viaN (Pure.nb s.data.toList) = Pure.viaGo ((ws.drop (i + 1)).map (·.data.toList)) (i + 1) ((l ++ [(⟨c.1, c.2⟩ : S29)]).map (fun x => (x.f0, x.f1))) by
                  rw [HS.out, if_pos h8, List.map_append]
                  rfl)
                clear HS
                go_wp2_with (fail)
                refine (must_ok 11 _).mono ?_
                rintro e w8 ⟨rfl, hw8⟩
                rw [← hw8] at HQ8 HK8 HR8 HV8 HB8 HG8
                clear hw8 hb8 hb7
                obtain ⟨j0, j1, _, _⟩ := two_cell HG8.out
                have hbs : w0.heap.size ≤ B := by omega
                go_wp2_with (go_loud (at_builtin; refine Kd.R_append k29 (w0 := w0) w0.heap.size rfl (.tmp 36) (.tmp 38) 30 29 (.agg #[(.string ⟨#[]⟩), (.int .i64 0)]) 24 rfl Tryz.underlying30 info29 rfl (by decide) (by omega) _ l (⟨c.1, c.2⟩ : S29) [.string c.1, .int .i64 c.2] (fun k => B ≤ k) (fun _ => False) rfl rfl (k29_mkM _ _ _ _) (fun _ hk => hk.elim) (fun k hk => Nat.le_trans HB8.out hk) HR8.out HQ8.out.b HQ8.out.b.size (by rw [hli]; omega) ?_; intro v1 wd ho hbd hgd hat))
                go_roundw
                case rel =>
                  have hgw8 : g < w8.heap.size := HQ8.out.a.lt
                  have hKd : KB g w wd := ⟨hbd.os.trans H0.out.b.os.symm, hbd.tape.trans H0.out.b.tape.symm, hbd.output.trans H0.out.b.output.symm, Nat.le_trans HK8.out.size hgd.size, fun k hk hkg => (hgd.block k (Nat.lt_of_lt_of_le hk HK8.out.size) (fun e => by have := HR8.out.1 _ e.symm; omega)).trans (HK8.out.block k hk hkg)⟩
                  have hAd : AtG g ⟨#[]⟩ wd := (hgd.block g (HQ8.out.a.lt) (fun e => by have := HR8.out.1 _ e.symm; omega)).trans HQ8.out.a
                  exact ⟨i + 1, l ++ [(⟨c.1, c.2⟩ : S29)], by omega, by rw [List.length_append, hli]; rfl, by go_num, HZ, ⟨ho⟩, ⟨⟨HQ8.out.E, hbd, HQ8.out.hg, hAd⟩⟩, ⟨hKd⟩, ⟨Kd.V_grown HV8.out hgd (fun k hk e => by have := HR8.out.1 _ e.symm; have := hk.2; omega)⟩, ⟨Nat.le_trans HB8.out hgd.size⟩⟩
                case measure => simp [intOf]; omega
              · have h8' : ¬ (i : Int) < 8 := by omega
                have HZ := Aside0.mk (show Pure.viaN (Pure.nb s.data.toList) = .bad 11 by rw [HS.out, if_neg h8])
                clear HS
                go_wp2_with (fail)
                rw [show decide ((i : Int) < 8) = false by simpa using h8']
                refine (must_bad 11 _).mono ?_
                rintro e w8 ⟨rfl, rfl⟩
                go_wp2
                refine ⟨rfl, HK8.out, ?_⟩
                rw [HZ.out]
          · obtain rfl : i = ws.length := by omega
            have HZ := Aside0.mk (show Pure.viaN (Pure.nb s.data.toList) = .got (l.map (fun x => (x.f0, x.f1))) [] by rw [HX.out, List.drop_length]; rfl)
            go_wp2
            go_ret
            refine ⟨HKr.out, ?_⟩
            rw [HZ.out]
            exact ⟨_, ⟨#[]⟩, rfl, ⟨l, rfl, Kd.R_mono HR1.out (fun k hk => by have : B ≤ k := hk; omega)⟩, HQr.out.a, rfl, Nat.zero_le _⟩
end Go.Proofs.YtgaboenipiojoaaGreatDoor.QAll
end

section
/- cmd's reader: read. -/
set_option linter.unusedVariables false
set_option linter.unusedSimpArgs false
namespace Go.Proofs.YtgaboenipiojoaaGreatDoor.QAll
open Go.RowKit Go.Proofs.YtgaboenipiojoaaGreatDoorW.PrintWords Go.Proofs.YtgaboenipiojoaaGreatDoorW.PrintLast Go.Proofs.YtgaboenipiojoaaGreatDoorW.PrintMore
def cmdC (k n : Int) (b : ByteArray) (ssid : Int) (via : Value) (tx : ByteArray) : Array Value := #[.int .i64 k, .int .i64 n, .string b, .int .i64 ssid, via, .string tx]
/-- A command in memory. -/
def cmdP (w0 w : World) (a : Pure.CmdM) (v : Value) (w' : World) : Prop :=
  ∃ (l : List S29) (tx : ByteArray) (via : Value), v = .agg (cmdC a.k a.n a.dst.1 a.dst.2 via tx) ∧ tx.data.toList = a.text ∧ a.via = l.map (fun x => (x.f0, x.f1)) ∧ Kd.R k29 29 w' w0.heap.size (fun k => w.heap.size ≤ k) via l
theorem cells6 {w : World} {g : Nat} {a b c d e f : Value} {t : TypeId} (h : w.heap[g]? = some (.cells #[a, b, c, d, e, f] t (0, 0))) :
    (w.cell? ⟨g, 0, none⟩ = some a ∧ w.cell? ⟨g, 1, none⟩ = some b ∧ w.cell? ⟨g, 2, none⟩ = some c ∧ w.cell? ⟨g, 3, none⟩ = some d ∧ w.cell? ⟨g, 4, none⟩ = some e ∧ w.cell? ⟨g, 5, none⟩ = some f) ∧
    (w.frozen? ⟨g, 0, none⟩ = false ∧ w.frozen? ⟨g, 1, none⟩ = false ∧ w.frozen? ⟨g, 2, none⟩ = false ∧ w.frozen? ⟨g, 3, none⟩ = false ∧ w.frozen? ⟨g, 4, none⟩ = false ∧ w.frozen? ⟨g, 5, none⟩ = false) := by
  simp [World.cell?, World.frozen?, h]
theorem six_set {w : World} {g : Nat} {a b c d e f a' b' c' d' e' f' : Value} {t : TypeId} (h : w.heap[g]? = some (.cells #[a, b, c, d, e, f] t (0, 0))) :
    ((((((w.setCell ⟨g, 0, none⟩ a').setCell ⟨g, 1, none⟩ b').setCell ⟨g, 2, none⟩ c').setCell ⟨g, 3, none⟩ d').setCell ⟨g, 4, none⟩ e').setCell ⟨g, 5, none⟩ f').heap[g]? = some (.cells #[a', b', c', d', e', f'] t (0, 0)) := by
  simp [World.setCell, Array.getElem?_modify, h]
theorem six_below (w : World) (g : Nat) (a' b' c' d' e' f' : Value) :
    Below g w ((((((w.setCell ⟨g, 0, none⟩ a').setCell ⟨g, 1, none⟩ b').setCell ⟨g, 2, none⟩ c').setCell ⟨g, 3, none⟩ d').setCell ⟨g, 4, none⟩ e').setCell ⟨g, 5, none⟩ f') :=
  ((((((Below.refl g w).setCell (p := ⟨g, 0, none⟩) (Nat.le_refl _) a').setCell (p := ⟨g, 1, none⟩) (Nat.le_refl _) b').setCell (p := ⟨g, 2, none⟩) (Nat.le_refl _) c').setCell (p := ⟨g, 3, none⟩) (Nat.le_refl _) d').setCell (p := ⟨g, 4, none⟩) (Nat.le_refl _) e').setCell (p := ⟨g, 5, none⟩) (Nat.le_refl _) f'
theorem six_far (w : World) (g : Nat) (a' b' c' d' e' f' : Value) (k : Nat) (hk : k ≠ g) :
    ((((((w.setCell ⟨g, 0, none⟩ a').setCell ⟨g, 1, none⟩ b').setCell ⟨g, 2, none⟩ c').setCell ⟨g, 3, none⟩ d').setCell ⟨g, 4, none⟩ e').setCell ⟨g, 5, none⟩ f').heap[k]? = w.heap[k]? := by
  rw [Below.heap_setCell _ _ _ _ (show k ≠ g from hk), Below.heap_setCell _ _ _ _ (show k ≠ g from hk), Below.heap_setCell _ _ _ _ (show k ≠ g from hk), Below.heap_setCell _ _ _ _ (show k ≠ g from hk), Below.heap_setCell _ _ _ _ (show k ≠ g from hk), Below.heap_setCell _ _ _ _ (show k ≠ g from hk)]
theorem bnd_at {k lo hi lo0 hi0 : Int} {bb : Bool} (h0 : Pure.bndN k = some (lo0, hi0)) (h : (Pure.bndN k = some (lo, hi) ∧ bb = true) ∨ (Pure.bndN k = none ∧ bb = false)) : lo = lo0 ∧ hi = hi0 ∧ bb = true := by
  rw [h0] at h
  rcases h with ⟨h, hb⟩ | ⟨h, _⟩
  · injection h with z
    injection z with z1 z2
    exact ⟨z1.symm, z2.symm, hb⟩
  · cases h
def zCmd : Array Value := #[.int .i64 0, .int .i64 0, .string ⟨#[]⟩, .int .i64 0, .slice none 0 0, .string ⟨#[]⟩]
set_option maxHeartbeats 4000000 in
set_option maxRecDepth 100000 in
theorem read_calls (w0 : World) (g : Nat) (s : ByteArray) (hs : s.size ≤ 1000000) (w : World) (h0 : At0 w0 g s w) :
    Calls Tryz.prog 34 #[.pointer (some ⟨g, 0, none⟩)] w (RdP g s.size (cmdP w0 w) (Pure.readN (Pure.nb s.data.toList)) w) := by
  have H0 := Aside0.mk h0
  clear h0
  have hu32 := Tryz.underlying32
  have hb0 := (Below.refl w.heap.size w).alloc (Nat.le_refl _) (.cells zCmd 32)
  have H1 := Aside0.mk (H0.out.below hb0)
  have HK1 := Aside0.mk (KB.of_below (g := g) hb0)
  have hgl := H0.out.a.lt
  clear hb0
  have HM := Aside0.mk (more_calls g s hs _ H1.out.a)
  by_cases hm : Pure.nb s.data.toList = []
  · have HX := Aside0.mk (show Pure.readN (Pure.nb s.data.toList) = .bad 7 by unfold Pure.readN; rw [if_pos hm])
    rw [show moreB s = false by unfold moreB; rw [hm]; rfl] at HM
    clear hm
    go_enter Tryz.func34, Tryz.ntmps34
    go_wp2_with (fail)
    refine HM.out.mono ?_
    rintro e w1 ⟨rfl, q, rfl⟩
    go_wp2_with (fail)
    refine (must_bad 7 _).mono ?_
    rintro e w1 ⟨rfl, rfl⟩
    go_wp2
    refine ⟨rfl, HK1.out.drewN q, ?_⟩
    rw [HX.out]
  · have HXX := Aside0.mk (show Pure.readN (Pure.nb s.data.toList) = (Pure.bodyN (Pure.kindN (Pure.wd (Pure.nb s.data.toList))) (Pure.rs (Pure.nb s.data.toList))).bind fun c q => if q = [] then .got c q else .bad 5 by
      unfold Pure.readN Pure.wordN
      rw [if_neg hm, if_neg hm]
      rfl)
    have HWE := Aside0.mk (show Pure.wordN (Pure.nb s.data.toList) = .got (Pure.wd (Pure.nb s.data.toList)) (Pure.rs (Pure.nb s.data.toList)) by unfold Pure.wordN; rw [if_neg hm])
    rw [show moreB s = true by unfold moreB; simpa using hm] at HM
    clear hm
    go_enter Tryz.func34, Tryz.ntmps34
    go_wp2_with (fail)
    refine HM.out.mono ?_
    rintro e w1 ⟨rfl, q, hw1⟩
    have H2 := Aside0.mk (show At0 w0 g s w1 by rw [hw1]; exact H1.out.below (pw_below_drewN (Below.refl _ _) q))
    have HK2 := Aside0.mk (show KB g w w1 by rw [hw1]; exact HK1.out.drewN q)
    have HC2 := Aside0.mk (show w1.heap[w.heap.size]? = some (.cells zCmd 32 (0, 0)) by rw [hw1]; exact heap_alloc_new w _)
    clear hw1 HK1
    go_wp2_with (fail)
    refine (must_ok 7 _).mono ?_
    rintro e w1' ⟨rfl, rfl⟩
    have HW := Aside0.mk (word_calls g s hs _ H2.out.a)
    rw [HWE.out] at HW
    clear HWE HM
    generalize Pure.wd (Pure.nb s.data.toList) = a at HXX HW
    generalize Pure.rs (Pure.nb s.data.toList) = r at HXX HW
    go_wp2_with (fail)
    refine HW.out.mono ?_
    rintro e w2 ⟨hk, v, s', rfl, ⟨t, rfl, ht, hts⟩, ha, hr, hs'⟩
    have H3 := Aside0.mk (H2.out.kb hk ha)
    have HK3 := Aside0.mk (HK2.out.trans hk)
    have HC3 := Aside0.mk (show w2.heap[w.heap.size]? = some (.cells zCmd 32 (0, 0)) by rw [hk.block _ (blk_lt HC2.out) (by omega)]; exact HC2.out)
    have HF := Aside0.mk (And.intro hr hs')
    have HKI := Aside0.mk (kindOf_calls t (by omega) w2 H3.out.env)
    rw [ht] at HKI
    clear hk ha hr hs' ht hts HC2 HK2 H2 HW
    go_wp2_with (fail)
    refine HKI.out.mono ?_
    rintro e w3 ⟨rfl, hb3⟩
    have H4 := Aside0.mk (H3.out.below hb3)
    have HK4 := Aside0.mk (HK3.out.trans (KB.of_below hb3))
    have HC4 := Aside0.mk ((hb3.block _ (blk_lt HC3.out)).trans HC3.out)
    clear hb3 HC3 HK3 H3 HKI
    generalize Pure.kindN a = k at HXX ⊢
    obtain ⟨⟨c0, c1, c2, c3, c4, c5⟩, f0, f1, f2, f3, f4, f5⟩ := cells6 HC4.out
    go_wp2_with (fail)
    obtain ⟨lo, hi, bb, hbn, hbo⟩ : ∃ lo hi bb, ((Pure.bndN k = some (lo, hi) ∧ bb = true) ∨ (Pure.bndN k = none ∧ bb = false)) ∧ ∀ W, Calls Tryz.prog 61 #[.int .i64 k] W fun e w' => e = .returned (.tuple #[.int .i64 lo, .int .i64 hi, .bool bb]) ∧ w' = W := by
      cases hb : Pure.bndN k with
      | none => exact ⟨0, 0, false, Or.inr ⟨rfl, rfl⟩, fun W => bounds_none k hb W⟩
      | some p => exact ⟨p.1, p.2, true, Or.inl ⟨rfl, rfl⟩, fun W => bounds_some k p.1 p.2 hb W⟩
    refine (hbo _).mono ?_
    rintro e w4 ⟨rfl, hw4⟩
    have HB5 := (Below.refl w.heap.size w3).setCell (p := ⟨w.heap.size, 0, none⟩) (Nat.le_refl _) (.int .i64 k)
    have HK5 := Aside0.mk (show KB g w w4 by
      rw [hw4]
      exact ⟨HB5.os.trans HK4.out.os, HB5.tape.trans HK4.out.tape, HB5.output.trans HK4.out.output, Nat.le_trans HK4.out.size HB5.size, fun k hk hg => (HB5.block k hk).trans (HK4.out.block k hk hg)⟩)
    have H5 := Aside0.mk (show At0 w0 g s' w4 from H0.out.kb HK5.out (by rw [hw4]; exact (HB5.block g hgl).trans H4.out.a))
    have HC5 := Aside0.mk (show w4.heap[w.heap.size]? = some (.cells #[.int .i64 k, .int .i64 0, .string ⟨#[]⟩, .int .i64 0, .slice none 0 0, .string ⟨#[]⟩] 32 (0, 0)) by
      rw [hw4]
      have z := HC4.out
      unfold zCmd at z
      simp [World.setCell, Array.getElem?_modify, z])
    clear hw4 HB5 H4 HK4 HC4 c0 c1 c2 c3 c4 c5 f0 f1 f2 f3 f4 f5 hbo
    obtain ⟨⟨c0, c1, c2, c3, c4, c5⟩, f0, f1, f2, f3, f4, f5⟩ := cells6 HC5.out
    go_upto_block 0 with (fail)
    go_cut [] from 20 to 78 (fun wx => ∃ c q s5, Aside0 (Pure.bodyN k r = .got c q) ∧ Aside0 (At0 w0 g s5 wx) ∧ Aside0 (KB g w wx) ∧ Aside0 (Pure.nb s5.data.toList = q ∧ s5.size ≤ s.size) ∧ Aside0 (∃ (l : List S29) (tx : ByteArray) (via : Value), wx.heap[w.heap.size]? = some (.cells (cmdC c.k c.n c.dst.1 c.dst.2 via tx) 32 (0, 0)) ∧ tx.data.toList = c.text ∧ c.via = l.map (fun x => (x.f0, x.f1)) ∧ Kd.R k29 29 wx w0.heap.size (fun k => w.heap.size < k) via l))
    case first =>
      by_cases k0 : k = 0
      · have HX := Aside0.mk (show Pure.readN (Pure.nb s.data.toList) = .bad 2 by rw [HXX.out, k0]; rfl)
        subst k0
        go_wp2
        refine ⟨rfl, HK5.out, ?_⟩
        rw [HX.out]
      · by_cases k13 : k = 13
        · obtain rfl := k13
          have HT := Aside0.mk (text_calls g s' (by have := HF.out.2; omega) _ H5.out.a)
          rw [HF.out.1] at HT
          go_wp2_with (fail)
          refine HT.out.mono ?_
          rintro e w5 ⟨hk5, he⟩
          have HK6 := Aside0.mk (HK5.out.trans hk5)
          have hc5 := (hk5.block _ (blk_lt HC5.out) (by omega)).trans HC5.out
          cases hv : Pure.textN r with
          | bad j =>
            rw [hv] at he
            obtain rfl : e = wrongE j := he
            have HX := Aside0.mk (show Pure.readN (Pure.nb s.data.toList) = .bad j by rw [HXX.out]; show (Pure.Rd.bind (Pure.Rd.bind (Pure.textN r) _) _) = _; rw [hv]; rfl)
            clear hv hk5 hc5
            go_wp2
            refine ⟨rfl, HK6.out, ?_⟩
            rw [HX.out]
          | got x q =>
            rw [hv] at he
            obtain ⟨v, s5, rfl, ⟨y, rfl, hy, _⟩, ha5, hr5, hs5⟩ := he
            have HBo := Aside0.mk (show Pure.bodyN 13 r = .got { Pure.cmd0 13 with text := x } q by show (Pure.Rd.bind (Pure.textN r) _) = _; rw [hv]; rfl)
            have H6 := Aside0.mk (H5.out.kb hk5 ha5)
            have HC6 := Aside0.mk hc5
            have HQ := Aside0.mk (And.intro hr5 (show s5.size ≤ s.size by have := HF.out.2; omega))
            have HY := Aside0.mk hy
            clear hv hk5 hc5 hr5 hs5 ha5 hy c0 c1 c2 c3 c4 c5 f0 f1 f2 f3 f4 f5
            obtain ⟨⟨c0, c1, c2, c3, c4, c5⟩, f0, f1, f2, f3, f4, f5⟩ := cells6 HC6.out
            go_wp2_with (fail)
            go_meet
            have hb := (Below.refl w.heap.size w5).setCell (p := ⟨w.heap.size, 5, none⟩) (Nat.le_refl _) (.string y)
            have hKK : KB g w (w5.setCell ⟨w.heap.size, 5, none⟩ (.string y)) := ⟨hb.os.trans HK6.out.os, hb.tape.trans HK6.out.tape, hb.output.trans HK6.out.output, Nat.le_trans HK6.out.size hb.size, fun k hk hg => (hb.block k hk).trans (HK6.out.block k hk hg)⟩
            have hz := HC6.out
            exact ⟨_, _, s5, HBo, ⟨H0.out.kb hKK ((hb.block g hgl).trans H6.out.a)⟩, ⟨hKK⟩, HQ, ⟨[], y, .slice none 0 0, by simp [World.setCell, Array.getElem?_modify, hz, cmdC, Pure.cmd0], HY.out, rfl, Kd.R_nil _ _ _ _ _⟩⟩
        · by_cases k15 : k = 15
          · obtain rfl := k15
            have HT := Aside0.mk (onOff_calls w0 g s' (by have := HF.out.2; omega) _ H5.out)
            rw [HF.out.1] at HT
            go_wp2_with (fail)
            refine HT.out.mono ?_
            rintro e w5 ⟨hk5, he⟩
            have HK6 := Aside0.mk (HK5.out.trans hk5)
            have hc5 := (hk5.block _ (blk_lt HC5.out) (by omega)).trans HC5.out
            cases hv : Pure.onN r with
            | bad j =>
              rw [hv] at he
              obtain rfl : e = wrongE j := he
              have HX := Aside0.mk (show Pure.readN (Pure.nb s.data.toList) = .bad j by rw [HXX.out]; show (Pure.Rd.bind (Pure.Rd.bind (Pure.onN r) _) _) = _; rw [hv]; rfl)
              clear hv hk5 hc5
              go_wp2
              refine ⟨rfl, HK6.out, ?_⟩
              rw [HX.out]
            | got x q =>
              rw [hv] at he
              obtain ⟨v, s5, rfl, rfl, ha5, hr5, hs5⟩ := he
              have HBo := Aside0.mk (show Pure.bodyN 15 r = .got { Pure.cmd0 15 with n := x } q by show (Pure.Rd.bind (Pure.onN r) _) = _; rw [hv]; rfl)
              have H6 := Aside0.mk (H5.out.kb hk5 ha5)
              have HC6 := Aside0.mk hc5
              have HQ := Aside0.mk (And.intro hr5 (show s5.size ≤ s.size by have := HF.out.2; omega))
              clear hv hk5 hc5 hr5 hs5 ha5 c0 c1 c2 c3 c4 c5 f0 f1 f2 f3 f4 f5
              unfold encI
              obtain ⟨⟨c0, c1, c2, c3, c4, c5⟩, f0, f1, f2, f3, f4, f5⟩ := cells6 HC6.out
              go_wp2_with (fail)
              go_meet
              have hb := ((Below.refl w.heap.size w5).setCell (p := ⟨w.heap.size, 1, none⟩) (Nat.le_refl _) (.int .i64 x))
              have hKK : KB g w (w5.setCell ⟨w.heap.size, 1, none⟩ (.int .i64 x)) := ⟨hb.os.trans HK6.out.os, hb.tape.trans HK6.out.tape, hb.output.trans HK6.out.output, Nat.le_trans HK6.out.size hb.size, fun k hk hg => (hb.block k hk).trans (HK6.out.block k hk hg)⟩
              have hz := HC6.out
              exact ⟨_, _, s5, HBo, ⟨H0.out.kb hKK ((hb.block g hgl).trans H6.out.a)⟩, ⟨hKK⟩, HQ, ⟨[], ⟨#[]⟩, .slice none 0 0, by simp [World.setCell, Array.getElem?_modify, hz, cmdC, Pure.cmd0], rfl, rfl, Kd.R_nil _ _ _ _ _⟩⟩
          · by_cases k17 : k = 17
            · obtain rfl := k17
              have HT := Aside0.mk (onOff_calls w0 g s' (by have := HF.out.2; omega) _ H5.out)
              rw [HF.out.1] at HT
              go_wp2_with (fail)
              refine HT.out.mono ?_
              rintro e w5 ⟨hk5, he⟩
              have HK6 := Aside0.mk (HK5.out.trans hk5)
              have hc5 := (hk5.block _ (blk_lt HC5.out) (by omega)).trans HC5.out
              cases hv : Pure.onN r with
              | bad j =>
                rw [hv] at he
                obtain rfl : e = wrongE j := he
                have HX := Aside0.mk (show Pure.readN (Pure.nb s.data.toList) = .bad j by rw [HXX.out]; show (Pure.Rd.bind (Pure.Rd.bind (Pure.onN r) _) _) = _; rw [hv]; rfl)
                clear hv hk5 hc5
                go_wp2
                refine ⟨rfl, HK6.out, ?_⟩
                rw [HX.out]
              | got x q =>
                rw [hv] at he
                obtain ⟨v, s5, rfl, rfl, ha5, hr5, hs5⟩ := he
                have HBo := Aside0.mk (show Pure.bodyN 17 r = .got { Pure.cmd0 17 with n := x } q by show (Pure.Rd.bind (Pure.onN r) _) = _; rw [hv]; rfl)
                have H6 := Aside0.mk (H5.out.kb hk5 ha5)
                have HC6 := Aside0.mk hc5
                have HQ := Aside0.mk (And.intro hr5 (show s5.size ≤ s.size by have := HF.out.2; omega))
                clear hv hk5 hc5 hr5 hs5 ha5 c0 c1 c2 c3 c4 c5 f0 f1 f2 f3 f4 f5
                unfold encI
                obtain ⟨⟨c0, c1, c2, c3, c4, c5⟩, f0, f1, f2, f3, f4, f5⟩ := cells6 HC6.out
                go_wp2_with (fail)
                go_meet
                have hb := ((Below.refl w.heap.size w5).setCell (p := ⟨w.heap.size, 1, none⟩) (Nat.le_refl _) (.int .i64 x))
                have hKK : KB g w (w5.setCell ⟨w.heap.size, 1, none⟩ (.int .i64 x)) := ⟨hb.os.trans HK6.out.os, hb.tape.trans HK6.out.tape, hb.output.trans HK6.out.output, Nat.le_trans HK6.out.size hb.size, fun k hk hg => (hb.block k hk).trans (HK6.out.block k hk hg)⟩
                have hz := HC6.out
                exact ⟨_, _, s5, HBo, ⟨H0.out.kb hKK ((hb.block g hgl).trans H6.out.a)⟩, ⟨hKK⟩, HQ, ⟨[], ⟨#[]⟩, .slice none 0 0, by simp [World.setCell, Array.getElem?_modify, hz, cmdC, Pure.cmd0], rfl, rfl, Kd.R_nil _ _ _ _ _⟩⟩
            · by_cases k6 : k = 6
              · obtain rfl := k6
                have HT := Aside0.mk (beacon_calls w0 g s' (by have := HF.out.2; omega) _ H5.out)
                rw [HF.out.1] at HT
                go_wp2_with (fail)
                refine HT.out.mono ?_
                rintro e w5 ⟨hk5, he⟩
                have HK6 := Aside0.mk (HK5.out.trans hk5)
                have hc5 := (hk5.block _ (blk_lt HC5.out) (by omega)).trans HC5.out
                cases hv : Pure.beaN r with
                | bad j =>
                  rw [hv] at he
                  obtain rfl : e = wrongE j := he
                  have HX := Aside0.mk (show Pure.readN (Pure.nb s.data.toList) = .bad j by rw [HXX.out]; show (Pure.Rd.bind (Pure.Rd.bind (Pure.beaN r) _) _) = _; rw [hv]; rfl)
                  clear hv hk5 hc5
                  go_wp2
                  refine ⟨rfl, HK6.out, ?_⟩
                  rw [HX.out]
                | got x q =>
                  rw [hv] at he
                  obtain ⟨v, s5, rfl, ⟨y, rfl, hy⟩, ha5, hr5, hs5⟩ := he
                  have HBo := Aside0.mk (show Pure.bodyN 6 r = .got { Pure.cmd0 6 with n := x.1, text := x.2 } q by show (Pure.Rd.bind (Pure.beaN r) _) = _; rw [hv]; rfl)
                  have H6 := Aside0.mk (H5.out.kb hk5 ha5)
                  have HC6 := Aside0.mk hc5
                  have HQ := Aside0.mk (And.intro hr5 (show s5.size ≤ s.size by have := HF.out.2; omega))
                  have HY := Aside0.mk hy
                  clear hv hk5 hc5 hr5 hs5 ha5 hy c0 c1 c2 c3 c4 c5 f0 f1 f2 f3 f4 f5
                  obtain ⟨⟨c0, c1, c2, c3, c4, c5⟩, f0, f1, f2, f3, f4, f5⟩ := cells6 HC6.out
                  go_wp2_with (fail)
                  go_meet
                  have hb := (((Below.refl w.heap.size w5).setCell (p := ⟨w.heap.size, 1, none⟩) (Nat.le_refl _) (.int .i64 x.1)).setCell (p := ⟨w.heap.size, 5, none⟩) (Nat.le_refl _) (.string y))
                  have hKK : KB g w ((w5.setCell ⟨w.heap.size, 1, none⟩ (.int .i64 x.1)).setCell ⟨w.heap.size, 5, none⟩ (.string y)) := ⟨hb.os.trans HK6.out.os, hb.tape.trans HK6.out.tape, hb.output.trans HK6.out.output, Nat.le_trans HK6.out.size hb.size, fun k hk hg => (hb.block k hk).trans (HK6.out.block k hk hg)⟩
                  have hz := HC6.out
                  exact ⟨_, _, s5, HBo, ⟨H0.out.kb hKK ((hb.block g hgl).trans H6.out.a)⟩, ⟨hKK⟩, HQ, ⟨[], y, .slice none 0 0, by simp [World.setCell, Array.getElem?_modify, hz, cmdC, Pure.cmd0], HY.out, rfl, Kd.R_nil _ _ _ _ _⟩⟩
              · by_cases k9 : k = 9
                · obtain rfl := k9
                  obtain ⟨rfl, rfl, rfl⟩ := bnd_at (lo0 := 16) (hi0 := 256) rfl hbn
                  have HT := Aside0.mk (number_calls w0 g s' 16 256 (by have := HF.out.2; omega) _ H5.out)
                  rw [HF.out.1] at HT
                  go_wp2_with (fail)
                  refine HT.out.mono ?_
                  rintro e w5 ⟨hk5, he⟩
                  have HK6 := Aside0.mk (HK5.out.trans hk5)
                  have hc5 := (hk5.block _ (blk_lt HC5.out) (by omega)).trans HC5.out
                  cases hv : Pure.numN 16 256 r with
                  | bad j =>
                    rw [hv] at he
                    obtain rfl : e = wrongE j := he
                    have HX := Aside0.mk (show Pure.readN (Pure.nb s.data.toList) = .bad j by rw [HXX.out]; show (Pure.Rd.bind (Pure.Rd.bind (Pure.numN 16 256 r) _) _) = _; rw [hv]; rfl)
                    clear hv hk5 hc5
                    go_wp2
                    refine ⟨rfl, HK6.out, ?_⟩
                    rw [HX.out]
                  | got x q =>
                    rw [hv] at he
                    obtain ⟨v, s5, rfl, rfl, ha5, hr5, hs5⟩ := he
                    have HBo := Aside0.mk (show Pure.bodyN 9 r = .got { Pure.cmd0 9 with n := x } q by show (Pure.Rd.bind (Pure.numN 16 256 r) _) = _; rw [hv]; rfl)
                    have H6 := Aside0.mk (H5.out.kb hk5 ha5)
                    have HC6 := Aside0.mk hc5
                    have HQ := Aside0.mk (And.intro hr5 (show s5.size ≤ s.size by have := HF.out.2; omega))
                    clear hv hk5 hc5 hr5 hs5 ha5 c0 c1 c2 c3 c4 c5 f0 f1 f2 f3 f4 f5
                    unfold encI
                    obtain ⟨⟨c0, c1, c2, c3, c4, c5⟩, f0, f1, f2, f3, f4, f5⟩ := cells6 HC6.out
                    go_wp2_with (fail)
                    go_meet
                    have hb := ((Below.refl w.heap.size w5).setCell (p := ⟨w.heap.size, 1, none⟩) (Nat.le_refl _) (.int .i64 x))
                    have hKK : KB g w (w5.setCell ⟨w.heap.size, 1, none⟩ (.int .i64 x)) := ⟨hb.os.trans HK6.out.os, hb.tape.trans HK6.out.tape, hb.output.trans HK6.out.output, Nat.le_trans HK6.out.size hb.size, fun k hk hg => (hb.block k hk).trans (HK6.out.block k hk hg)⟩
                    have hz := HC6.out
                    exact ⟨_, _, s5, HBo, ⟨H0.out.kb hKK ((hb.block g hgl).trans H6.out.a)⟩, ⟨hKK⟩, HQ, ⟨[], ⟨#[]⟩, .slice none 0 0, by simp [World.setCell, Array.getElem?_modify, hz, cmdC, Pure.cmd0], rfl, rfl, Kd.R_nil _ _ _ _ _⟩⟩
                · by_cases k10 : k = 10
                  · obtain rfl := k10
                    obtain ⟨rfl, rfl, rfl⟩ := bnd_at (lo0 := 1) (hi0 := 63) rfl hbn
                    have HT := Aside0.mk (number_calls w0 g s' 1 63 (by have := HF.out.2; omega) _ H5.out)
                    rw [HF.out.1] at HT
                    go_wp2_with (fail)
                    refine HT.out.mono ?_
                    rintro e w5 ⟨hk5, he⟩
                    have HK6 := Aside0.mk (HK5.out.trans hk5)
                    have hc5 := (hk5.block _ (blk_lt HC5.out) (by omega)).trans HC5.out
                    cases hv : Pure.numN 1 63 r with
                    | bad j =>
                      rw [hv] at he
                      obtain rfl : e = wrongE j := he
                      have HX := Aside0.mk (show Pure.readN (Pure.nb s.data.toList) = .bad j by rw [HXX.out]; show (Pure.Rd.bind (Pure.Rd.bind (Pure.numN 1 63 r) _) _) = _; rw [hv]; rfl)
                      clear hv hk5 hc5
                      go_wp2
                      refine ⟨rfl, HK6.out, ?_⟩
                      rw [HX.out]
                    | got x q =>
                      rw [hv] at he
                      obtain ⟨v, s5, rfl, rfl, ha5, hr5, hs5⟩ := he
                      have HBo := Aside0.mk (show Pure.bodyN 10 r = .got { Pure.cmd0 10 with n := x } q by show (Pure.Rd.bind (Pure.numN 1 63 r) _) = _; rw [hv]; rfl)
                      have H6 := Aside0.mk (H5.out.kb hk5 ha5)
                      have HC6 := Aside0.mk hc5
                      have HQ := Aside0.mk (And.intro hr5 (show s5.size ≤ s.size by have := HF.out.2; omega))
                      clear hv hk5 hc5 hr5 hs5 ha5 c0 c1 c2 c3 c4 c5 f0 f1 f2 f3 f4 f5
                      unfold encI
                      obtain ⟨⟨c0, c1, c2, c3, c4, c5⟩, f0, f1, f2, f3, f4, f5⟩ := cells6 HC6.out
                      go_wp2_with (fail)
                      go_meet
                      have hb := ((Below.refl w.heap.size w5).setCell (p := ⟨w.heap.size, 1, none⟩) (Nat.le_refl _) (.int .i64 x))
                      have hKK : KB g w (w5.setCell ⟨w.heap.size, 1, none⟩ (.int .i64 x)) := ⟨hb.os.trans HK6.out.os, hb.tape.trans HK6.out.tape, hb.output.trans HK6.out.output, Nat.le_trans HK6.out.size hb.size, fun k hk hg => (hb.block k hk).trans (HK6.out.block k hk hg)⟩
                      have hz := HC6.out
                      exact ⟨_, _, s5, HBo, ⟨H0.out.kb hKK ((hb.block g hgl).trans H6.out.a)⟩, ⟨hKK⟩, HQ, ⟨[], ⟨#[]⟩, .slice none 0 0, by simp [World.setCell, Array.getElem?_modify, hz, cmdC, Pure.cmd0], rfl, rfl, Kd.R_nil _ _ _ _ _⟩⟩
                  · by_cases k11 : k = 11
                    · obtain rfl := k11
                      obtain ⟨rfl, rfl, rfl⟩ := bnd_at (lo0 := 4) (hi0 := 255) rfl hbn
                      have HT := Aside0.mk (number_calls w0 g s' 4 255 (by have := HF.out.2; omega) _ H5.out)
                      rw [HF.out.1] at HT
                      go_wp2_with (fail)
                      refine HT.out.mono ?_
                      rintro e w5 ⟨hk5, he⟩
                      have HK6 := Aside0.mk (HK5.out.trans hk5)
                      have hc5 := (hk5.block _ (blk_lt HC5.out) (by omega)).trans HC5.out
                      cases hv : Pure.numN 4 255 r with
                      | bad j =>
                        rw [hv] at he
                        obtain rfl : e = wrongE j := he
                        have HX := Aside0.mk (show Pure.readN (Pure.nb s.data.toList) = .bad j by rw [HXX.out]; show (Pure.Rd.bind (Pure.Rd.bind (Pure.numN 4 255 r) _) _) = _; rw [hv]; rfl)
                        clear hv hk5 hc5
                        go_wp2
                        refine ⟨rfl, HK6.out, ?_⟩
                        rw [HX.out]
                      | got x q =>
                        rw [hv] at he
                        obtain ⟨v, s5, rfl, rfl, ha5, hr5, hs5⟩ := he
                        have HBo := Aside0.mk (show Pure.bodyN 11 r = .got { Pure.cmd0 11 with n := x } q by show (Pure.Rd.bind (Pure.numN 4 255 r) _) = _; rw [hv]; rfl)
                        have H6 := Aside0.mk (H5.out.kb hk5 ha5)
                        have HC6 := Aside0.mk hc5
                        have HQ := Aside0.mk (And.intro hr5 (show s5.size ≤ s.size by have := HF.out.2; omega))
                        clear hv hk5 hc5 hr5 hs5 ha5 c0 c1 c2 c3 c4 c5 f0 f1 f2 f3 f4 f5
                        unfold encI
                        obtain ⟨⟨c0, c1, c2, c3, c4, c5⟩, f0, f1, f2, f3, f4, f5⟩ := cells6 HC6.out
                        go_wp2_with (fail)
                        go_meet
                        have hb := ((Below.refl w.heap.size w5).setCell (p := ⟨w.heap.size, 1, none⟩) (Nat.le_refl _) (.int .i64 x))
                        have hKK : KB g w (w5.setCell ⟨w.heap.size, 1, none⟩ (.int .i64 x)) := ⟨hb.os.trans HK6.out.os, hb.tape.trans HK6.out.tape, hb.output.trans HK6.out.output, Nat.le_trans HK6.out.size hb.size, fun k hk hg => (hb.block k hk).trans (HK6.out.block k hk hg)⟩
                        have hz := HC6.out
                        exact ⟨_, _, s5, HBo, ⟨H0.out.kb hKK ((hb.block g hgl).trans H6.out.a)⟩, ⟨hKK⟩, HQ, ⟨[], ⟨#[]⟩, .slice none 0 0, by simp [World.setCell, Array.getElem?_modify, hz, cmdC, Pure.cmd0], rfl, rfl, Kd.R_nil _ _ _ _ _⟩⟩
                    · by_cases k12 : k = 12
                      · obtain rfl := k12
                        obtain ⟨rfl, rfl, rfl⟩ := bnd_at (lo0 := 1) (hi0 := 15) rfl hbn
                        have HT := Aside0.mk (number_calls w0 g s' 1 15 (by have := HF.out.2; omega) _ H5.out)
                        rw [HF.out.1] at HT
                        go_wp2_with (fail)
                        refine HT.out.mono ?_
                        rintro e w5 ⟨hk5, he⟩
                        have HK6 := Aside0.mk (HK5.out.trans hk5)
                        have hc5 := (hk5.block _ (blk_lt HC5.out) (by omega)).trans HC5.out
                        cases hv : Pure.numN 1 15 r with
                        | bad j =>
                          rw [hv] at he
                          obtain rfl : e = wrongE j := he
                          have HX := Aside0.mk (show Pure.readN (Pure.nb s.data.toList) = .bad j by rw [HXX.out]; show (Pure.Rd.bind (Pure.Rd.bind (Pure.numN 1 15 r) _) _) = _; rw [hv]; rfl)
                          clear hv hk5 hc5
                          go_wp2
                          refine ⟨rfl, HK6.out, ?_⟩
                          rw [HX.out]
                        | got x q =>
                          rw [hv] at he
                          obtain ⟨v, s5, rfl, rfl, ha5, hr5, hs5⟩ := he
                          have HBo := Aside0.mk (show Pure.bodyN 12 r = .got { Pure.cmd0 12 with n := x } q by show (Pure.Rd.bind (Pure.numN 1 15 r) _) = _; rw [hv]; rfl)
                          have H6 := Aside0.mk (H5.out.kb hk5 ha5)
                          have HC6 := Aside0.mk hc5
                          have HQ := Aside0.mk (And.intro hr5 (show s5.size ≤ s.size by have := HF.out.2; omega))
                          clear hv hk5 hc5 hr5 hs5 ha5 c0 c1 c2 c3 c4 c5 f0 f1 f2 f3 f4 f5
                          unfold encI
                          obtain ⟨⟨c0, c1, c2, c3, c4, c5⟩, f0, f1, f2, f3, f4, f5⟩ := cells6 HC6.out
                          go_wp2_with (fail)
                          go_meet
                          have hb := ((Below.refl w.heap.size w5).setCell (p := ⟨w.heap.size, 1, none⟩) (Nat.le_refl _) (.int .i64 x))
                          have hKK : KB g w (w5.setCell ⟨w.heap.size, 1, none⟩ (.int .i64 x)) := ⟨hb.os.trans HK6.out.os, hb.tape.trans HK6.out.tape, hb.output.trans HK6.out.output, Nat.le_trans HK6.out.size hb.size, fun k hk hg => (hb.block k hk).trans (HK6.out.block k hk hg)⟩
                          have hz := HC6.out
                          exact ⟨_, _, s5, HBo, ⟨H0.out.kb hKK ((hb.block g hgl).trans H6.out.a)⟩, ⟨hKK⟩, HQ, ⟨[], ⟨#[]⟩, .slice none 0 0, by simp [World.setCell, Array.getElem?_modify, hz, cmdC, Pure.cmd0], rfl, rfl, Kd.R_nil _ _ _ _ _⟩⟩
                      · by_cases k16 : k = 16
                        · obtain rfl := k16
                          obtain ⟨rfl, rfl, rfl⟩ := bnd_at (lo0 := 1) (hi0 := 1000000) rfl hbn
                          have HT := Aside0.mk (number_calls w0 g s' 1 1000000 (by have := HF.out.2; omega) _ H5.out)
                          rw [HF.out.1] at HT
                          go_wp2_with (fail)
                          refine HT.out.mono ?_
                          rintro e w5 ⟨hk5, he⟩
                          have HK6 := Aside0.mk (HK5.out.trans hk5)
                          have hc5 := (hk5.block _ (blk_lt HC5.out) (by omega)).trans HC5.out
                          cases hv : Pure.numN 1 1000000 r with
                          | bad j =>
                            rw [hv] at he
                            obtain rfl : e = wrongE j := he
                            have HX := Aside0.mk (show Pure.readN (Pure.nb s.data.toList) = .bad j by rw [HXX.out]; show (Pure.Rd.bind (Pure.Rd.bind (Pure.numN 1 1000000 r) _) _) = _; rw [hv]; rfl)
                            clear hv hk5 hc5
                            go_wp2
                            refine ⟨rfl, HK6.out, ?_⟩
                            rw [HX.out]
                          | got x q =>
                            rw [hv] at he
                            obtain ⟨v, s5, rfl, rfl, ha5, hr5, hs5⟩ := he
                            have HBo := Aside0.mk (show Pure.bodyN 16 r = .got { Pure.cmd0 16 with n := x } q by show (Pure.Rd.bind (Pure.numN 1 1000000 r) _) = _; rw [hv]; rfl)
                            have H6 := Aside0.mk (H5.out.kb hk5 ha5)
                            have HC6 := Aside0.mk hc5
                            have HQ := Aside0.mk (And.intro hr5 (show s5.size ≤ s.size by have := HF.out.2; omega))
                            clear hv hk5 hc5 hr5 hs5 ha5 c0 c1 c2 c3 c4 c5 f0 f1 f2 f3 f4 f5
                            unfold encI
                            obtain ⟨⟨c0, c1, c2, c3, c4, c5⟩, f0, f1, f2, f3, f4, f5⟩ := cells6 HC6.out
                            go_wp2_with (fail)
                            go_meet
                            have hb := ((Below.refl w.heap.size w5).setCell (p := ⟨w.heap.size, 1, none⟩) (Nat.le_refl _) (.int .i64 x))
                            have hKK : KB g w (w5.setCell ⟨w.heap.size, 1, none⟩ (.int .i64 x)) := ⟨hb.os.trans HK6.out.os, hb.tape.trans HK6.out.tape, hb.output.trans HK6.out.output, Nat.le_trans HK6.out.size hb.size, fun k hk hg => (hb.block k hk).trans (HK6.out.block k hk hg)⟩
                            have hz := HC6.out
                            exact ⟨_, _, s5, HBo, ⟨H0.out.kb hKK ((hb.block g hgl).trans H6.out.a)⟩, ⟨hKK⟩, HQ, ⟨[], ⟨#[]⟩, .slice none 0 0, by simp [World.setCell, Array.getElem?_modify, hz, cmdC, Pure.cmd0], rfl, rfl, Kd.R_nil _ _ _ _ _⟩⟩
                        · by_cases k1 : k = 1
                          · obtain rfl := k1
                            have HT := Aside0.mk (call_calls w0 g s' (by have := HF.out.2; omega) _ H5.out)
                            rw [HF.out.1] at HT
                            go_wp2_with (fail)
                            refine HT.out.mono ?_
                            rintro e w5 ⟨hk5, he⟩
                            have HK6 := Aside0.mk (HK5.out.trans hk5)
                            have hc5 := (hk5.block _ (blk_lt HC5.out) (by omega)).trans HC5.out
                            cases hv : Pure.callN r with
                            | bad j =>
                              rw [hv] at he
                              obtain rfl : e = wrongE j := he
                              have HX := Aside0.mk (show Pure.readN (Pure.nb s.data.toList) = .bad j by rw [HXX.out]; show (Pure.Rd.bind (Pure.Rd.bind (Pure.callN r) _) _) = _; rw [hv]; rfl)
                              clear hv hk5 hc5
                              go_wp2
                              refine ⟨rfl, HK6.out, ?_⟩
                              rw [HX.out]
                            | got x q =>
                              rw [hv] at he
                              obtain ⟨v, s5, rfl, rfl, ha5, hr5, hs5⟩ := he
                              have HBB := Aside0.mk (show Pure.bodyN 1 r = if q = [] then .got { Pure.cmd0 1 with dst := x } q else (Pure.viaN q).bind fun v z => .got { Pure.cmd0 1 with dst := x, via := v } z by show (Pure.Rd.bind (Pure.callN r) _) = _; rw [hv]; rfl)
                              have H6 := Aside0.mk (H5.out.kb hk5 ha5)
                              have HC6 := Aside0.mk hc5
                              have hs5' : s5.size ≤ s.size := by have := HF.out.2; omega
                              have HQ := Aside0.mk (And.intro hr5 hs5')
                              clear hv hk5 hc5 hr5 hs5 ha5 c0 c1 c2 c3 c4 c5 f0 f1 f2 f3 f4 f5
                              unfold encC
                              obtain ⟨⟨c0, c1, c2, c3, c4, c5⟩, f0, f1, f2, f3, f4, f5⟩ := cells6 HC6.out
                              have hb := ((Below.refl w.heap.size w5).setCell (p := ⟨w.heap.size, 2, none⟩) (Nat.le_refl _) (.string x.1)).setCell (p := ⟨w.heap.size, 3, none⟩) (Nat.le_refl _) (.int .i64 x.2)
                              obtain ⟨w7, hw7⟩ : ∃ w7, (w5.setCell ⟨w.heap.size, 2, none⟩ (.string x.1)).setCell ⟨w.heap.size, 3, none⟩ (.int .i64 x.2) = w7 := ⟨_, rfl⟩
                              rw [hw7] at hb
                              have HK7 := Aside0.mk (show KB g w w7 from ⟨hb.os.trans HK6.out.os, hb.tape.trans HK6.out.tape, hb.output.trans HK6.out.output, Nat.le_trans HK6.out.size hb.size, fun k hk hg => (hb.block k hk).trans (HK6.out.block k hk hg)⟩)
                              have H7 := Aside0.mk (show At0 w0 g s5 w7 from H0.out.kb HK7.out ((hb.block g hgl).trans H6.out.a))
                              have hz := HC6.out
                              have HC7 := Aside0.mk (show w7.heap[w.heap.size]? = some (.cells #[.int .i64 1, .int .i64 0, .string x.1, .int .i64 x.2, .slice none 0 0, .string ⟨#[]⟩] 32 (0, 0)) by
                                rw [← hw7]
                                simp [World.setCell, Array.getElem?_modify, hz])
                              have HMo := Aside0.mk (more_calls g s5 (by omega) _ H7.out.a)
                              have HW7 := Aside0.mk hw7
                              clear hb hz hw7
                              by_cases hq : q = []
                              · have HBo := Aside0.mk (show Pure.bodyN 1 r = .got { Pure.cmd0 1 with dst := x } q by rw [HBB.out, if_pos hq])
                                rw [show moreB s5 = false by unfold moreB; rw [HQ.out.1, hq]; rfl] at HMo
                                clear hq HBB
                                go_wp2_with (fail)
                                rw [HW7.out]
                                refine HMo.out.mono ?_
                                rintro e w8 ⟨rfl, q8, rfl⟩
                                go_wp2_with (fail)
                                go_meet
                                exact ⟨_, _, s5, HBo, ⟨H7.out.below (pw_below_drewN (Below.refl _ _) q8)⟩, ⟨HK7.out.drewN q8⟩, HQ, ⟨[], ⟨#[]⟩, .slice none 0 0, HC7.out, rfl, rfl, Kd.R_nil _ _ _ _ _⟩⟩
                              · have HBv := Aside0.mk (show Pure.bodyN 1 r = (Pure.viaN q).bind fun v z => .got { Pure.cmd0 1 with dst := x, via := v } z by rw [HBB.out, if_neg hq])
                                rw [show moreB s5 = true by unfold moreB; rw [HQ.out.1]; simpa using hq] at HMo
                                clear hq HBB
                                go_wp2_with (fail)
                                rw [HW7.out]
                                refine HMo.out.mono ?_
                                rintro e w8 ⟨rfl, q8, rfl⟩
                                have H8 := Aside0.mk (H7.out.below (pw_below_drewN (Below.refl _ _) q8))
                                have HV := Aside0.mk (via_calls w0 g s5 (by omega) _ H8.out)
                                rw [HQ.out.1] at HV
                                have HK8 := Aside0.mk (HK7.out.drewN q8)
                                go_wp2_with (fail)
                                refine HV.out.mono ?_
                                rintro e w9 ⟨hk9, he⟩
                                have HK9 := Aside0.mk (HK8.out.trans hk9)
                                have hlt7 : w.heap.size < w7.heap.size := blk_lt HC7.out
                                have hc9 := (hk9.block _ hlt7 (by omega)).trans HC7.out
                                cases hv : Pure.viaN q with
                                | bad j =>
                                  rw [hv] at he
                                  obtain rfl : e = wrongE j := he
                                  have HX := Aside0.mk (show Pure.readN (Pure.nb s.data.toList) = .bad j by rw [HXX.out, HBv.out, hv]; rfl)
                                  clear hv hk9 hc9
                                  go_wp2
                                  refine ⟨rfl, HK9.out, ?_⟩
                                  rw [HX.out]
                                | got vl z =>
                                  rw [hv] at he
                                  obtain ⟨v, s9, rfl, ⟨l, hl, hrow⟩, ha9, hr9, hs9⟩ := he
                                  obtain ⟨A9, cap9, rfl, _, _⟩ := Kd.R_reads hrow
                                  have HBo := Aside0.mk (show Pure.bodyN 1 r = .got { Pure.cmd0 1 with dst := x, via := vl } z by rw [HBv.out, hv]; rfl)
                                  have HC9 := Aside0.mk hc9
                                  have HA9 := Aside0.mk ha9
                                  have HQ9 := Aside0.mk (And.intro hr9 (show s9.size ≤ s.size by omega))
                                  have HRW := Aside0.mk (And.intro hl hrow)
                                  clear hv hk9 hc9 hr9 hs9 ha9 hl hrow c0 c1 c2 c3 c4 c5 f0 f1 f2 f3 f4 f5
                                  obtain ⟨⟨c0, c1, c2, c3, c4, c5⟩, f0, f1, f2, f3, f4, f5⟩ := cells6 HC9.out
                                  go_wp2_with (fail)
                                  go_meet
                                  have hb := (Below.refl w.heap.size w9).setCell (p := ⟨w.heap.size, 4, none⟩) (Nat.le_refl _) (.slice A9 l.length cap9)
                                  have hKK : KB g w (w9.setCell ⟨w.heap.size, 4, none⟩ (.slice A9 l.length cap9)) := ⟨hb.os.trans HK9.out.os, hb.tape.trans HK9.out.tape, hb.output.trans HK9.out.output, Nat.le_trans HK9.out.size hb.size, fun k hk hg => (hb.block k hk).trans (HK9.out.block k hk hg)⟩
                                  have hz := HC9.out
                                  have hlt8 : w.heap.size < (w7.drewN q8).heap.size := hlt7
                                  exact ⟨_, _, s9, HBo, ⟨H0.out.kb hKK ((hb.block g hgl).trans HA9.out)⟩, ⟨hKK⟩, HQ9, ⟨l, ⟨#[]⟩, .slice A9 l.length cap9, by simp [World.setCell, Array.getElem?_modify, hz, cmdC, Pure.cmd0], rfl, HRW.out.1, Kd.R_mono (Kd.R_far HRW.out.2 (p := ⟨w.heap.size, 4, none⟩) (fun k hk => by have : (w7.drewN q8).heap.size ≤ k := hk; show k ≠ w.heap.size; omega) _) (fun k hk => by have : (w7.drewN q8).heap.size ≤ k := hk; omega)⟩⟩
                          · by_cases k5 : k = 5
                            · obtain rfl := k5
                              have HT := Aside0.mk (call_calls w0 g s' (by have := HF.out.2; omega) _ H5.out)
                              rw [HF.out.1] at HT
                              go_wp2_with (fail)
                              refine HT.out.mono ?_
                              rintro e w5 ⟨hk5, he⟩
                              have HK6 := Aside0.mk (HK5.out.trans hk5)
                              have hc5 := (hk5.block _ (blk_lt HC5.out) (by omega)).trans HC5.out
                              cases hv : Pure.callN r with
                              | bad j =>
                                rw [hv] at he
                                obtain rfl : e = wrongE j := he
                                have HX := Aside0.mk (show Pure.readN (Pure.nb s.data.toList) = .bad j by rw [HXX.out]; show (Pure.Rd.bind (Pure.Rd.bind (Pure.callN r) _) _) = _; rw [hv]; rfl)
                                clear hv hk5 hc5
                                go_wp2
                                refine ⟨rfl, HK6.out, ?_⟩
                                rw [HX.out]
                              | got x q =>
                                rw [hv] at he
                                obtain ⟨v, s5, rfl, rfl, ha5, hr5, hs5⟩ := he
                                have HBB := Aside0.mk (show Pure.bodyN 5 r = if q = [] then .got { Pure.cmd0 5 with dst := x } q else (Pure.viaN q).bind fun v z => .got { Pure.cmd0 5 with dst := x, via := v } z by show (Pure.Rd.bind (Pure.callN r) _) = _; rw [hv]; rfl)
                                have H6 := Aside0.mk (H5.out.kb hk5 ha5)
                                have HC6 := Aside0.mk hc5
                                have hs5' : s5.size ≤ s.size := by have := HF.out.2; omega
                                have HQ := Aside0.mk (And.intro hr5 hs5')
                                clear hv hk5 hc5 hr5 hs5 ha5 c0 c1 c2 c3 c4 c5 f0 f1 f2 f3 f4 f5
                                unfold encC
                                obtain ⟨⟨c0, c1, c2, c3, c4, c5⟩, f0, f1, f2, f3, f4, f5⟩ := cells6 HC6.out
                                have hb := ((Below.refl w.heap.size w5).setCell (p := ⟨w.heap.size, 2, none⟩) (Nat.le_refl _) (.string x.1)).setCell (p := ⟨w.heap.size, 3, none⟩) (Nat.le_refl _) (.int .i64 x.2)
                                obtain ⟨w7, hw7⟩ : ∃ w7, (w5.setCell ⟨w.heap.size, 2, none⟩ (.string x.1)).setCell ⟨w.heap.size, 3, none⟩ (.int .i64 x.2) = w7 := ⟨_, rfl⟩
                                rw [hw7] at hb
                                have HK7 := Aside0.mk (show KB g w w7 from ⟨hb.os.trans HK6.out.os, hb.tape.trans HK6.out.tape, hb.output.trans HK6.out.output, Nat.le_trans HK6.out.size hb.size, fun k hk hg => (hb.block k hk).trans (HK6.out.block k hk hg)⟩)
                                have H7 := Aside0.mk (show At0 w0 g s5 w7 from H0.out.kb HK7.out ((hb.block g hgl).trans H6.out.a))
                                have hz := HC6.out
                                have HC7 := Aside0.mk (show w7.heap[w.heap.size]? = some (.cells #[.int .i64 5, .int .i64 0, .string x.1, .int .i64 x.2, .slice none 0 0, .string ⟨#[]⟩] 32 (0, 0)) by
                                  rw [← hw7]
                                  simp [World.setCell, Array.getElem?_modify, hz])
                                have HMo := Aside0.mk (more_calls g s5 (by omega) _ H7.out.a)
                                have HW7 := Aside0.mk hw7
                                clear hb hz hw7
                                by_cases hq : q = []
                                · have HBo := Aside0.mk (show Pure.bodyN 5 r = .got { Pure.cmd0 5 with dst := x } q by rw [HBB.out, if_pos hq])
                                  rw [show moreB s5 = false by unfold moreB; rw [HQ.out.1, hq]; rfl] at HMo
                                  clear hq HBB
                                  go_wp2_with (fail)
                                  rw [HW7.out]
                                  refine HMo.out.mono ?_
                                  rintro e w8 ⟨rfl, q8, rfl⟩
                                  go_wp2_with (fail)
                                  go_meet
                                  exact ⟨_, _, s5, HBo, ⟨H7.out.below (pw_below_drewN (Below.refl _ _) q8)⟩, ⟨HK7.out.drewN q8⟩, HQ, ⟨[], ⟨#[]⟩, .slice none 0 0, HC7.out, rfl, rfl, Kd.R_nil _ _ _ _ _⟩⟩
                                · have HBv := Aside0.mk (show Pure.bodyN 5 r = (Pure.viaN q).bind fun v z => .got { Pure.cmd0 5 with dst := x, via := v } z by rw [HBB.out, if_neg hq])
                                  rw [show moreB s5 = true by unfold moreB; rw [HQ.out.1]; simpa using hq] at HMo
                                  clear hq HBB
                                  go_wp2_with (fail)
                                  rw [HW7.out]
                                  refine HMo.out.mono ?_
                                  rintro e w8 ⟨rfl, q8, rfl⟩
                                  have H8 := Aside0.mk (H7.out.below (pw_below_drewN (Below.refl _ _) q8))
                                  have HV := Aside0.mk (via_calls w0 g s5 (by omega) _ H8.out)
                                  rw [HQ.out.1] at HV
                                  have HK8 := Aside0.mk (HK7.out.drewN q8)
                                  go_wp2_with (fail)
                                  refine HV.out.mono ?_
                                  rintro e w9 ⟨hk9, he⟩
                                  have HK9 := Aside0.mk (HK8.out.trans hk9)
                                  have hlt7 : w.heap.size < w7.heap.size := blk_lt HC7.out
                                  have hc9 := (hk9.block _ hlt7 (by omega)).trans HC7.out
                                  cases hv : Pure.viaN q with
                                  | bad j =>
                                    rw [hv] at he
                                    obtain rfl : e = wrongE j := he
                                    have HX := Aside0.mk (show Pure.readN (Pure.nb s.data.toList) = .bad j by rw [HXX.out, HBv.out, hv]; rfl)
                                    clear hv hk9 hc9
                                    go_wp2
                                    refine ⟨rfl, HK9.out, ?_⟩
                                    rw [HX.out]
                                  | got vl z =>
                                    rw [hv] at he
                                    obtain ⟨v, s9, rfl, ⟨l, hl, hrow⟩, ha9, hr9, hs9⟩ := he
                                    obtain ⟨A9, cap9, rfl, _, _⟩ := Kd.R_reads hrow
                                    have HBo := Aside0.mk (show Pure.bodyN 5 r = .got { Pure.cmd0 5 with dst := x, via := vl } z by rw [HBv.out, hv]; rfl)
                                    have HC9 := Aside0.mk hc9
                                    have HA9 := Aside0.mk ha9
                                    have HQ9 := Aside0.mk (And.intro hr9 (show s9.size ≤ s.size by omega))
                                    have HRW := Aside0.mk (And.intro hl hrow)
                                    clear hv hk9 hc9 hr9 hs9 ha9 hl hrow c0 c1 c2 c3 c4 c5 f0 f1 f2 f3 f4 f5
                                    obtain ⟨⟨c0, c1, c2, c3, c4, c5⟩, f0, f1, f2, f3, f4, f5⟩ := cells6 HC9.out
                                    go_wp2_with (fail)
                                    go_meet
                                    have hb := (Below.refl w.heap.size w9).setCell (p := ⟨w.heap.size, 4, none⟩) (Nat.le_refl _) (.slice A9 l.length cap9)
                                    have hKK : KB g w (w9.setCell ⟨w.heap.size, 4, none⟩ (.slice A9 l.length cap9)) := ⟨hb.os.trans HK9.out.os, hb.tape.trans HK9.out.tape, hb.output.trans HK9.out.output, Nat.le_trans HK9.out.size hb.size, fun k hk hg => (hb.block k hk).trans (HK9.out.block k hk hg)⟩
                                    have hz := HC9.out
                                    have hlt8 : w.heap.size < (w7.drewN q8).heap.size := hlt7
                                    exact ⟨_, _, s9, HBo, ⟨H0.out.kb hKK ((hb.block g hgl).trans HA9.out)⟩, ⟨hKK⟩, HQ9, ⟨l, ⟨#[]⟩, .slice A9 l.length cap9, by simp [World.setCell, Array.getElem?_modify, hz, cmdC, Pure.cmd0], rfl, HRW.out.1, Kd.R_mono (Kd.R_far HRW.out.2 (p := ⟨w.heap.size, 4, none⟩) (fun k hk => by have : (w7.drewN q8).heap.size ≤ k := hk; show k ≠ w.heap.size; omega) _) (fun k hk => by have : (w7.drewN q8).heap.size ≤ k := hk; omega)⟩⟩
                            · have hn : Pure.bndN k = none := by unfold Pure.bndN; rw [if_neg k6, if_neg k9, if_neg k10, if_neg k11, if_neg k12, if_neg k16]
                              obtain rfl : bb = false := by
                                rcases hbn with ⟨h, _⟩ | ⟨_, h⟩
                                · rw [hn] at h; cases h
                                · exact h
                              have HBo := Aside0.mk (show Pure.bodyN k r = .got (Pure.cmd0 k) r by unfold Pure.bodyN; rw [if_neg k0, if_neg (by omega), if_neg k6, if_neg k13, if_neg (by omega), hn])
                              clear hbn hn
                              have b1 : (k == 1) = false := beq_eq_false_iff_ne.2 k1
                              have b5 : (k == 5) = false := beq_eq_false_iff_ne.2 k5
                              have b6 : (k == 6) = false := beq_eq_false_iff_ne.2 k6
                              have b13 : (k == 13) = false := beq_eq_false_iff_ne.2 k13
                              have b15 : (k == 15) = false := beq_eq_false_iff_ne.2 k15
                              have b17 : (k == 17) = false := beq_eq_false_iff_ne.2 k17
                              go_wp2_with (fail)
                              go_meet
                              exact ⟨_, _, s', HBo, H5, HK5, HF, ⟨[], ⟨#[]⟩, .slice none 0 0, HC5.out, rfl, rfl, Kd.R_nil _ _ _ _ _⟩⟩
    case rest =>
      obtain ⟨c, q, s5, HBo, H6, HK6, HQ, HR6⟩ := hcut
      obtain ⟨l, tx, via, hce, htx, hvia, hrow⟩ := HR6.out
      obtain ⟨A5, cap5, rfl, _, _⟩ := Kd.R_reads hrow
      have HCE := Aside0.mk hce
      have HRW := Aside0.mk hrow
      have HTX := Aside0.mk (And.intro htx hvia)
      clear hce hrow htx hvia HR6 HC5 H5 HK5 c0 c1 c2 c3 c4 c5 f0 f1 f2 f3 f4 f5
      have HMo := Aside0.mk (more_calls g s5 (by have := HQ.out.2; omega) _ H6.out.a)
      by_cases hq : q = []
      · have HX := Aside0.mk (show Pure.readN (Pure.nb s.data.toList) = .got c q by rw [HXX.out, HBo.out]; show (if q = [] then _ else _) = _; rw [if_pos hq])
        rw [show moreB s5 = false by unfold moreB; rw [HQ.out.1, hq]; rfl] at HMo
        clear hq HXX HBo
        go_wp2_with (fail)
        refine HMo.out.mono ?_
        rintro e w6 ⟨rfl, q6, rfl⟩
        go_wp2_with (fail)
        refine (must_ok 5 _).mono ?_
        rintro e w7 ⟨rfl, rfl⟩
        have hc7 := HCE.out
        unfold cmdC at hc7
        obtain ⟨⟨c0, c1, c2, c3, c4, c5⟩, f0, f1, f2, f3, f4, f5⟩ := cells6 hc7
        clear hc7
        go_wp2
        have hc8 : (wc.drewN q6).heap[w.heap.size]? = some (.cells #[.int .i64 c.k, .int .i64 c.n, .string c.dst.1, .int .i64 c.dst.2, .slice A5 l.length cap5, .string tx] 32 (0, 0)) := HCE.out
        refine bodyPost_ret (results_single rfl (.cell w.heap.size 32 (cmdC c.k c.n c.dst.1 c.dst.2 (.slice A5 l.length cap5) tx) (0, 0) _ rfl (six_set hc8) Tryz.underlying32 rfl (by kernel_rfl) .nil)) rfl ?_
        have hb := six_below (wc.drewN q6) w.heap.size (.int .i64 c.k) (.int .i64 c.n) (.string c.dst.1) (.int .i64 c.dst.2) (.slice A5 l.length cap5) (.string tx)
        have hK := HK6.out.drewN q6
        refine ⟨⟨hb.os.trans hK.os, hb.tape.trans hK.tape, hb.output.trans hK.output, Nat.le_trans hK.size hb.size, fun k hk hg => (hb.block k hk).trans (hK.block k hk hg)⟩, ?_⟩
        rw [HX.out]
        refine ⟨_, s5, rfl, ⟨l, tx, _, rfl, HTX.out.1, HTX.out.2, ?_⟩, (hb.block g hgl).trans (H6.out.a.drewN q6), HQ.out.1, HQ.out.2⟩
        exact Kd.R_mono (Kd.R_step (w := wc) HRW.out (fun k hk _ => six_far (wc.drewN q6) w.heap.size _ _ _ _ _ _ k (by have : w.heap.size < k := hk; omega))) (fun k hk => Nat.le_of_lt hk)
      · have HX := Aside0.mk (show Pure.readN (Pure.nb s.data.toList) = .bad 5 by rw [HXX.out, HBo.out]; show (if q = [] then _ else _) = _; rw [if_neg hq])
        rw [show moreB s5 = true by unfold moreB; rw [HQ.out.1]; simpa using hq] at HMo
        clear hq HXX HBo
        go_wp2_with (fail)
        refine HMo.out.mono ?_
        rintro e w6 ⟨rfl, q6, rfl⟩
        go_wp2_with (fail)
        refine (must_bad 5 _).mono ?_
        rintro e w7 ⟨rfl, rfl⟩
        go_wp2
        refine ⟨rfl, HK6.out.drewN q6, ?_⟩
        rw [HX.out]
end Go.Proofs.YtgaboenipiojoaaGreatDoor.QAll
end

section
/- cmd.Parse's deferred closure: its contracts; cmd.Parse. -/
set_option linter.unusedVariables false
set_option linter.unusedSimpArgs false
namespace Go.Proofs.YtgaboenipiojoaaGreatDoor.QAll
open Go.RowKit Go.Proofs.YtgaboenipiojoaaGreatDoorW.PrintWords Go.Proofs.YtgaboenipiojoaaGreatDoorW.PrintLast Go.Proofs.YtgaboenipiojoaaGreatDoorW.PrintMore
theorem catch_idle (p q : Addr) (w : World) :
    CallsD Tryz.prog 33 #[.pointer (some p), .pointer (some q)] .returning w fun e u' w' => e = .returned (.tuple #[]) ∧ u' = .returning ∧ w' = w := by
  refine callsD_of_wpS Tryz.func33 rfl fun c₀ cs hu => ?_
  apply wpS_seq
  apply wpS_region
  simp [wpOpsS, go_sem, recoverD, hu, Tryz.ntmps33, Exit.thenS]
  refine wpS_of_wp ?_
  cases c₀
  simp at hu
  go_wp2
  simp_all [bodyPostS, results, Tryz.f33]
theorem wp_opaque {P : Program} {c : Code} {Q : Exit → Act → World → Prop} {a : Act} {w : World} (h : ∀ Q' : Exit → Act → World → Prop, (∀ e a w, Q e a w → Q' e a w) → c.wp P Q' a w) : c.wp P Q a w := h Q (fun _ _ _ h => h)
theorem build32 (w : World) : (Instr.build 32 #[]).run Tryz.prog w = .ok (.agg zCmd) w := run_build w 32 #[] zCmd (by kernel_rfl)
theorem assert64 (v : Value) (w : World) : (Instr.typeAssert (.iface 64 v) 20 64 true).run Tryz.prog w = .ok (.tuple #[v, .bool true]) w := by kernel_rfl
set_option maxHeartbeats 1000000 in
set_option maxRecDepth 100000 in
theorem catch_wrong (pb qb : Nat) (hne : pb ≠ qb) (ev : Int) (older : List PanicEntry) (w : World) (a b c d e f : Value) (h : Value)
    (hp : w.heap[pb]? = some (.cells #[a, b, c, d, e, f] 32 (0, 0))) (hq : w.heap[qb]? = some (.cells #[h] 33 (0, 0))) :
    CallsD Tryz.prog 33 #[.pointer (some ⟨pb, 0, none⟩), .pointer (some ⟨qb, 0, none⟩)] (.panicking ({ v := .iface 64 (.int .i64 ev), recovered := false } :: older)) w fun e u' w' =>
      e = .returned (.tuple #[]) ∧ u' = .panicking ({ v := .iface 64 (.int .i64 ev), recovered := true } :: older) ∧ Below (min pb qb) w w' ∧
      w'.heap[pb]? = some (.cells zCmd 32 (0, 0)) ∧ w'.heap[qb]? = some (.cells #[.int .i64 ev] 33 (0, 0)) := by
  obtain ⟨⟨c0, c1, c2, c3, c4, c5⟩, f0, f1, f2, f3, f4, f5⟩ := cells6 hp
  obtain ⟨g0, g1⟩ : w.cell? ⟨qb, 0, none⟩ = some h ∧ w.frozen? ⟨qb, 0, none⟩ = false := by simp [World.cell?, World.frozen?, hq]
  have hne1 : ¬ pb = qb := hne
  have hne2 : ¬ qb = pb := fun h => hne h.symm
  have hu32 := Tryz.underlying32
  refine callsD_of_wpS Tryz.func33 rfl fun c₀ cs hu => ?_
  apply wpS_seq
  apply wpS_region
  simp [wpOpsS, go_sem, recoverD, hu, Tryz.ntmps33, Exit.thenS]
  refine wpS_of_wp ?_
  have ht : (#[Value.pointer (some { block := pb, off := 0 }), Value.pointer (some { block := qb, off := 0 })] ++
          (Array.replicate 11 undef).setIfInBounds 3 (Value.iface 64 (Value.int IntKind.i64 ev)) : Array Value) = #[Value.pointer (some { block := pb, off := 0 }), Value.pointer (some { block := qb, off := 0 }), undef, undef, undef, .iface 64 (.int .i64 ev), undef, undef, undef, undef, undef, undef, undef] := rfl
  rw [ht]
  clear ht
  have hu0 := hu
  clear hu
  have hb32 := build32
  have has := assert64
  unfold zCmd at hb32
  refine wp_opaque fun Q' hQ => ?_
  have HQ := Aside0.mk hQ
  clear hQ
  go_wp2
  refine HQ.out _ _ _ ?_
  have hz := six_set (a' := .int .i64 0) (b' := .int .i64 0) (c' := .string ⟨#[]⟩) (d' := .int .i64 0) (e' := .slice none 0 0) (f' := .string ⟨#[]⟩) hp
  have hy := (six_far w pb (.int .i64 0) (.int .i64 0) (.string ⟨#[]⟩) (.int .i64 0) (.slice none 0 0) (.string ⟨#[]⟩) qb hne2).trans hq
  have hb := six_below w pb (.int .i64 0) (.int .i64 0) (.string ⟨#[]⟩) (.int .i64 0) (.slice none 0 0) (.string ⟨#[]⟩)
  generalize ((((((w.setCell ⟨pb, 0, none⟩ (.int .i64 0)).setCell ⟨pb, 1, none⟩ (.int .i64 0)).setCell ⟨pb, 2, none⟩ (.string ⟨#[]⟩)).setCell ⟨pb, 3, none⟩ (.int .i64 0)).setCell ⟨pb, 4, none⟩ (.slice none 0 0)).setCell ⟨pb, 5, none⟩ (.string ⟨#[]⟩)) = w6 at hz hy hb ⊢
  have h1 : (w6.setCell ⟨qb, 0, none⟩ (.int .i64 ev)).heap[pb]? = some (.cells zCmd 32 (0, 0)) := (Below.heap_setCell w6 ⟨qb, 0, none⟩ _ pb hne1).trans hz
  have h2 : (w6.setCell ⟨qb, 0, none⟩ (.int .i64 ev)).heap[qb]? = some (.cells #[.int .i64 ev] 33 (0, 0)) := by simp [World.setCell, Array.getElem?_modify, hy]
  have h3 : Below (min pb qb) w (w6.setCell ⟨qb, 0, none⟩ (.int .i64 ev)) := Below.setCell (p := ⟨qb, 0, none⟩) (hb.mono (Nat.min_le_left pb qb)) (Nat.min_le_right pb qb) _
  generalize w6.setCell ⟨qb, 0, none⟩ (.int .i64 ev) = w7 at h1 h2 h3 ⊢
  simp [bodyPostS, results, Tryz.f33, hu0, h1, h2, h3]
/-- What Parse hands back: a command in memory of its own. -/
def CmdQ (w0 : World) (a : Pure.CmdM) (v : Value) (w' : World) : Prop :=
  ∃ (l : List S29) (tx : ByteArray) (via : Value), v = .agg (cmdC a.k a.n a.dst.1 a.dst.2 via tx) ∧ tx.data.toList = a.text ∧ a.via = l.map (fun x => (x.f0, x.f1)) ∧ Kd.R k29 29 w' w0.heap.size (fun k => w0.heap.size ≤ k) via l
def ParseP (w : World) (s : ByteArray) (e : Ending) (w' : World) : Prop :=
  Below w.heap.size w w' ∧ ∃ v, e = .returned (.tuple #[v, .int .i64 (Pure.parseN s.data.toList).2]) ∧ CmdQ w (Pure.parseN s.data.toList).1 v w'
theorem results_cs {P : Program} {fn : Func} {p q : Tmp} {ty tz : TypeId} (h : fn.results = #[.cell p ty, .cell q tz]) (tmps : Array Value) (w : World) (g g' : Nat) (t t' : TypeId) (cs : Array Value) (x : Value) (d d' : TypeDesc)
    (hp : tmps.getD p undef = .pointer (some ⟨g, 0, none⟩)) (hq : tmps.getD q undef = .pointer (some ⟨g', 0, none⟩)) (hg : w.heap[g]? = some (.cells cs t (0, 0))) (hg' : w.heap[g']? = some (.cells #[x] t' (0, 0)))
    (hd : (match d with | .struct _ | .array _ _ => true | _ => false) = true) (hd' : (match d' with | .struct _ | .array _ _ => true | _ => false) = false)
    (hu : P.underlying ty = some d) (hi : (P.info? ty).map (·.size) = some cs.size) (hu' : P.underlying tz = some d') : (results fn tmps).run P w = .ok (.tuple #[.agg cs, x]) w := by
  have h1 := run_loadVar_row w g t ty cs (0, 0) d hg hu (by cases d <;> first | rfl | (simp at hd)) hi
  have h2 : (loadVar tz ⟨g', 0, none⟩).run P w = .ok x w := by
    unfold loadVar isAgg load
    rw [Sem.run_bind, Sem.run_bind, run_underlying hu']
    cases d' <;> first | (simp at hd'; done) | (simp [Sem.run, World.cell?, hg'])
  unfold results
  rw [h, List.mapM_toArray]
  simp only [Sem.run_bind, Sem.run_map]
  have e1 : asAddr (tmps.getD p undef) = pure ⟨g, 0, none⟩ := by rw [hp]; rfl
  have e2 : asAddr (tmps.getD q undef) = pure ⟨g', 0, none⟩ := by rw [hq]; rfl
  rw [List.mapM_cons, List.mapM_cons, List.mapM_nil]
  simp only [e1, e2]
  simp [h1, h2]
set_option maxHeartbeats 4000000 in
set_option maxRecDepth 100000 in
theorem parse_calls (s : ByteArray) (hs : s.size ≤ 1000000) (w : World) (hE : EnvW w) :
    Calls Tryz.prog 11 #[.string s] w (ParseP w s) := by
  have HE := Aside0.mk hE
  clear hE
  have hu32 := Tryz.underlying32
  have hmf : ∀ (fn : Fn) (first cap : Array Value) (w : World), (Instr.makeFunc fn first cap).run Tryz.prog w = .ok (.func fn first cap) w := fun _ _ _ _ => rfl
  have hb1 := (Below.refl w.heap.size w).alloc (Nat.le_refl _) (.cells zCmd 32)
  have hb2 := hb1.alloc (by simp) (.cells #[.int .i64 0] 33)
  have hb3 := hb2.alloc (by simp; omega) (.cells #[.string s] 67)
  have HW := Aside0.mk (show ∃ w3, ((w.alloc (.cells zCmd 32)).alloc (.cells #[.int .i64 0] 33)).alloc (.cells #[.string s] 67) = w3 ∧ Below w.heap.size w w3 ∧ w3.heap.size = w.heap.size + 3 ∧
      w3.heap[w.heap.size]? = some (.cells zCmd 32 (0, 0)) ∧ w3.heap[w.heap.size + 1]? = some (.cells #[.int .i64 0] 33 (0, 0)) ∧ w3.heap[w.heap.size + 1 + 1]? = some (.cells #[.string s] 67 (0, 0)) from
    ⟨_, rfl, hb3, by simp, (Below.heap_alloc _ _ _ (by simp; omega)).trans ((Below.heap_alloc _ _ _ (by simp)).trans (heap_alloc_new w _)), (Below.heap_alloc _ _ _ (by simp)).trans (by have := heap_alloc_new (w.alloc (.cells zCmd 32)) (.cells #[.int .i64 0] 33); simpa using this), by have := heap_alloc_new ((w.alloc (.cells zCmd 32)).alloc (.cells #[.int .i64 0] 33)) (.cells #[.string s] 67); simpa using this⟩)
  clear hb1 hb2 hb3
  unfold zCmd at HW
  go_enter_defers Tryz.func11, Tryz.ntmps11
  go_wp2_with (fail)
  obtain ⟨w3, h30, h31, h32, h33, h34, h35⟩ := HW.out
  rw [h30]
  clear h30 HW
  have H3 := Aside0.mk (show At0 w (w.heap.size + 1 + 1) s w3 from ⟨HE.out, h31, by omega, h35⟩)
  have HF := Aside0.mk (And.intro h31 (And.intro h32 (And.intro h33 h34)))
  clear h31 h32 h33 h34 h35
  have HR := Aside0.mk (read_calls w (w.heap.size + 1 + 1) s hs w3 H3.out)
  refine HR.out.mono ?_
  rintro e w4 ⟨hk, he⟩
  obtain ⟨h31, h32, h33, h34⟩ := HF.out
  have h41 : w4.heap[w.heap.size]? = some (.cells zCmd 32 (0, 0)) := (hk.block _ (by omega) (by omega)).trans h33
  have h42 : w4.heap[w.heap.size + 1]? = some (.cells #[.int .i64 0] 33 (0, 0)) := (hk.block _ (by omega) (by omega)).trans h34
  have h43 : Below w.heap.size w w4 := hk.below h31 (by omega) (by omega)
  cases hrd : Pure.readN (Pure.nb s.data.toList) with
  | bad k =>
    rw [hrd] at he
    obtain rfl : e = wrongE k := he
    have hp : Pure.parseN s.data.toList = (Pure.cmd0 0, k) := by unfold Pure.parseN; rw [hrd]
    rw [wrongE]
    show Leaves _ _ _ _ _ _ _
    refine leaves_cons (f := 33) (args := #[.pointer (some ⟨w.heap.size, 0, none⟩), .pointer (some ⟨w.heap.size + 1, 0, none⟩)]) (by simp) (by simp [go_sem]) ?_
    refine (catch_wrong w.heap.size (w.heap.size + 1) (by omega) k [] w4 _ _ _ _ _ _ _ h41 h42).mono ?_
    rintro e u' w5 ⟨rfl, rfl, hb5, h51, h52⟩
    refine ⟨_, results_cs rfl _ w5 w.heap.size (w.heap.size + 1) 32 33 zCmd (.int .i64 k) _ _ rfl rfl h51 h52 rfl rfl Tryz.underlying32 (by kernel_rfl) Tryz.underlying33, ?_, ?_⟩
    · exact h43.trans (hb5.mono (by simp))
    · rw [hp]
      exact ⟨_, rfl, [], ⟨#[]⟩, .slice none 0 0, rfl, rfl, rfl, Kd.R_nil _ _ _ _ _⟩
  | got a r =>
    rw [hrd] at he
    obtain ⟨v, s', rfl, ⟨l, tx, via, rfl, htx, hvia, hrow⟩, -, -, -⟩ := he
    have hp : Pure.parseN s.data.toList = (a, 0) := by unfold Pure.parseN; rw [hrd]
    obtain ⟨A4, cap4, rfl, hA4, -⟩ := Kd.R_reads hrow
    obtain ⟨⟨c0, c1, c2, c3, c4, c5⟩, f0, f1, f2, f3, f4, f5⟩ := cells6 h41
    obtain ⟨g0, g1⟩ : w4.cell? ⟨w.heap.size + 1, 0, none⟩ = some (.int .i64 0) ∧ w4.frozen? ⟨w.heap.size + 1, 0, none⟩ = false := by simp [World.cell?, World.frozen?, h42]
    have HF4 := Aside0.mk (And.intro h41 (And.intro h42 (And.intro h43 (And.intro hk.size h32))))
    have HRW := Aside0.mk (And.intro htx (And.intro hvia hrow))
    have HP := Aside0.mk hp
    clear h31 h32 h33 h34 h41 h42 h43 hk hrow htx hvia hp hrd HR HF H3 hA4
    unfold cmdC
    go_wp2
    obtain ⟨h41, h42, h43, hsz, h32⟩ := HF4.out
    obtain ⟨htx, hvia, hrow⟩ := HRW.out
    have hz := six_set (a' := .int .i64 a.k) (b' := .int .i64 a.n) (c' := .string a.dst.1) (d' := .int .i64 a.dst.2) (e' := .slice A4 l.length cap4) (f' := .string tx) h41
    have hy := (six_far w4 w.heap.size (.int .i64 a.k) (.int .i64 a.n) (.string a.dst.1) (.int .i64 a.dst.2) (.slice A4 l.length cap4) (.string tx) (w.heap.size + 1) (by omega)).trans h42
    have hb := six_below w4 w.heap.size (.int .i64 a.k) (.int .i64 a.n) (.string a.dst.1) (.int .i64 a.dst.2) (.slice A4 l.length cap4) (.string tx)
    have hr6 := Kd.R_step hrow (fun k hk _ => six_far w4 w.heap.size (.int .i64 a.k) (.int .i64 a.n) (.string a.dst.1) (.int .i64 a.dst.2) (.slice A4 l.length cap4) (.string tx) k (by have : w3.heap.size ≤ k := hk; omega))
    generalize ((((((w4.setCell ⟨w.heap.size, 0, none⟩ (.int .i64 a.k)).setCell ⟨w.heap.size, 1, none⟩ (.int .i64 a.n)).setCell ⟨w.heap.size, 2, none⟩ (.string a.dst.1)).setCell ⟨w.heap.size, 3, none⟩ (.int .i64 a.dst.2)).setCell ⟨w.heap.size, 4, none⟩ (.slice A4 l.length cap4)).setCell ⟨w.heap.size, 5, none⟩ (.string tx)) = w6 at hz hy hb hr6 ⊢
    have h1 : (w6.setCell ⟨w.heap.size + 1, 0, none⟩ (.int .i64 0)).heap[w.heap.size]? = some (.cells (cmdC a.k a.n a.dst.1 a.dst.2 (.slice A4 l.length cap4) tx) 32 (0, 0)) := (Below.heap_setCell w6 ⟨w.heap.size + 1, 0, none⟩ _ w.heap.size (by show w.heap.size ≠ w.heap.size + 1; omega)).trans hz
    have h2 : (w6.setCell ⟨w.heap.size + 1, 0, none⟩ (.int .i64 0)).heap[w.heap.size + 1]? = some (.cells #[.int .i64 0] 33 (0, 0)) := by simp [World.setCell, Array.getElem?_modify, hy]
    have h3 : Below w.heap.size w (w6.setCell ⟨w.heap.size + 1, 0, none⟩ (.int .i64 0)) := Below.setCell (p := ⟨w.heap.size + 1, 0, none⟩) (h43.trans hb) (by simp) _
    have h4 := Kd.R_mono (Kd.R_far hr6 (p := ⟨w.heap.size + 1, 0, none⟩) (fun k hk => by have : w3.heap.size ≤ k := hk; show k ≠ w.heap.size + 1; omega) (.int .i64 0)) (ok' := fun k => w.heap.size ≤ k) (fun k hk => by have : w3.heap.size ≤ k := hk; omega)
    generalize w6.setCell ⟨w.heap.size + 1, 0, none⟩ (.int .i64 0) = w7 at h1 h2 h3 h4 ⊢
    show Leaves _ _ _ _ _ _ _
    refine leaves_cons (f := 33) (args := #[.pointer (some ⟨w.heap.size, 0, none⟩), .pointer (some ⟨w.heap.size + 1, 0, none⟩)]) (by simp) (by simp [go_sem]) ?_
    refine (catch_idle _ _ w7).mono ?_
    rintro e u' w8 ⟨rfl, rfl, rfl⟩
    refine ⟨_, results_cs rfl _ w8 w.heap.size (w.heap.size + 1) 32 33 _ (.int .i64 0) _ _ rfl rfl h1 h2 rfl rfl Tryz.underlying32 (by kernel_rfl) Tryz.underlying33, h3, ?_⟩
    rw [HP.out]
    exact ⟨_, rfl, l, tx, _, rfl, htx, hvia, h4⟩
end Go.Proofs.YtgaboenipiojoaaGreatDoor.QAll
end

section
/- The example of layer 25: what cmd.Parse tells of one line. -/
set_option linter.unusedVariables false
set_option linter.unusedSimpArgs false
namespace Go.Proofs.YtgaboenipiojoaaGreatDoor.QAll
open Go.RowKit Go.Proofs.YtgaboenipiojoaaGreatDoorW.PrintWords Go.Proofs.YtgaboenipiojoaaGreatDoorW.PrintLast Go.Proofs.YtgaboenipiojoaaGreatDoorW.PrintMore
/-- What Parse tells of a line of which that is known. -/
theorem parse_at (s : ByteArray) (hs : s.size ≤ 1000000) (k n : Int) (b : ByteArray) (ss : Int) (vl : List (ByteArray × Int)) (tl : Pure.L8) (er : Int) (hp : Pure.parseN s.data.toList = (⟨k, n, (b, ss), vl, tl⟩, er)) (w : World) (hE : EnvW w) :
    Calls Tryz.prog 11 #[.string s] w fun e w' => Below w.heap.size w w' ∧ ∃ (l : List S29) (tx : ByteArray) (A : Option Addr) (cap : Nat), e = .returned (.tuple #[.agg #[.int .i64 k, .int .i64 n, .string b, .int .i64 ss, .slice A l.length cap, .string tx], .int .i64 er]) ∧
      tx.data.toList = tl ∧ vl = l.map (fun x => (x.f0, x.f1)) ∧ Kd.C k29 w' A l.length l ∧ l.length ≤ cap := by
  refine (parse_calls s hs w hE).mono ?_
  rintro e w1 ⟨hb, v, rfl, hq⟩
  rw [hp] at hq ⊢
  obtain ⟨l, tx, via, rfl, htx, hvia, hrow⟩ := hq
  obtain ⟨A, cap, rfl, hc, hC⟩ := Kd.R_reads hrow
  exact ⟨hb, l, tx, A, cap, rfl, htx, hvia, hC, hc⟩
end Go.Proofs.YtgaboenipiojoaaGreatDoor.QAll
end

section
/- The law CmdNames, walked by hand. -/
set_option linter.unusedVariables false
set_option linter.unusedSimpArgs false
namespace Go.Proofs.YtgaboenipiojoaaGreatDoor.QAll
open Go.RowKit Go.Proofs.YtgaboenipiojoaaGreatDoorW.PrintWords Go.Proofs.YtgaboenipiojoaaGreatDoorW.PrintLast Go.Proofs.YtgaboenipiojoaaGreatDoorW.PrintMore
theorem inf9 : ∃ ie, Tryz.prog.info? 9 = some ie ∧ ie.size = 1 ∧ ie.zero = some (.string ⟨#[]⟩) := by
 have h : (Tryz.prog.info? 9).map (fun i => (i.size, i.zero)) = some (1, some (.string ⟨#[]⟩)) := by kernel_rfl
 obtain ⟨ie, h1, h2⟩ := Option.map_eq_some_iff.1 h
 injection h2 with h3 h4
 exact ⟨ie, h1, h3, h4⟩
/-- The block r turned to another object. -/
def mset (W : World) (r : Nat) (o : Obj) : World := { W with heap := W.heap.setIfInBounds r o }
theorem mset_new (w : World) (o o' : Obj) : mset (w.alloc o) w.heap.size o' = w.alloc o' := by
 unfold mset World.alloc
 congr 1
 apply Array.ext'
 simp [Array.toList_setIfInBounds, List.set_append_right]
set_option maxRecDepth 100000 in
theorem map_put (W : World) (mty et r clk : Nat) (es : Array MapEntry) (k : Int) (v : Value) (hm : Tryz.prog.underlying mty = some (.map 3 et)) (hb : W.heap[r]? = some (.map es clk)) (hn : Instr.findNow (.int .i64) (.int .i64 k) es.toList 0 = some none) :
  (Instr.mapUpdate mty (.map (some r)) (.int .i64 k) v).run Tryz.prog W = .ok () (mset W r (.map (es.push { key := .int .i64 k, val := v, born := clk }) (clk + 1))) := by
 unfold Instr.mapUpdate
 rw [Sem.run_bind, run_underlying hm]
 simp only [Result.andThen_ok, Sem.run_bind, MapKept.run_getObj_map hb, MapKept.run_checkKey Tryz.underlying3 (k := .int .i64 k) (rfl : IntKind.i64 = IntKind.i64) _ 9999, MapKept.run_findKey Tryz.underlying3 hn, MapKept.run_setObj_map _ hb]
 rfl
def squelchlaw25_CmdNames.f (k : Nat) (a0 a1 : Int) : Option Bool := if 0 ≤ a1 ∧ a1 < 256 then some true else none
end Go.Proofs.YtgaboenipiojoaaGreatDoor.QAll
end

section
/- shell.Message: the table of messages, and what isn't in it. -/
set_option linter.unusedVariables false
set_option linter.unusedSimpArgs false
namespace Go.Proofs.YtgaboenipiojoaaGreatDoor.QAll
open Go.RowKit Go.Proofs.YtgaboenipiojoaaGreatDoorW.PrintWords Go.Proofs.YtgaboenipiojoaaGreatDoorW.PrintLast Go.Proofs.YtgaboenipiojoaaGreatDoorW.PrintMore
set_option maxRecDepth 100000 in
theorem emap_put (W : World) (mty et r clk : Nat) (es : Array MapEntry) (k : Int) (v : Value) (hm : Tryz.prog.underlying mty = some (.map 33 et)) (hb : W.heap[r]? = some (.map es clk)) (hn : Instr.findNow (.int .i64) (.int .i64 k) es.toList 0 = some none) :
    (Instr.mapUpdate mty (.map (some r)) (.int .i64 k) v).run Tryz.prog W = .ok () (mset W r (.map (es.push { key := .int .i64 k, val := v, born := clk }) (clk + 1))) := by
  unfold Instr.mapUpdate
  rw [Sem.run_bind, run_underlying hm]
  simp only [Result.andThen_ok, Sem.run_bind, MapKept.run_getObj_map hb, MapKept.run_checkKey Tryz.underlying33 (k := .int .i64 k) (rfl : IntKind.i64 = IntKind.i64) _ 9999, MapKept.run_findKey Tryz.underlying33 hn, MapKept.run_setObj_map _ hb]
  rfl
set_option maxRecDepth 100000 in
theorem emap_get (W : World) (mty et r clk : Nat) (es : Array MapEntry) (k : Int) (v : Value) (i : Nat) (hm : Tryz.prog.underlying mty = some (.map 33 et)) (hb : W.heap[r]? = some (.map es clk)) (hn : Instr.findNow (.int .i64) (.int .i64 k) es.toList 0 = some (some (i, v))) :
    (Instr.lookup mty (.map (some r)) (.int .i64 k) true).run Tryz.prog W = .ok (.tuple #[v, .bool true]) W := by
  unfold Instr.lookup
  rw [Sem.run_bind, run_underlying hm]
  simp only [Result.andThen_ok, Sem.run_bind, Sem.run_pure, MapKept.run_getObj_map hb, MapKept.run_checkKey Tryz.underlying33 (k := .int .i64 k) (rfl : IntKind.i64 = IntKind.i64) _ 9999, MapKept.run_findKey Tryz.underlying33 hn]
  rfl
set_option maxRecDepth 100000 in
theorem emap_miss (W : World) (mty et r clk : Nat) (es : Array MapEntry) (k : Int) (z : Value) (hm : Tryz.prog.underlying mty = some (.map 33 et)) (hz : (zeroValue et).run Tryz.prog W = .ok z W) (hb : W.heap[r]? = some (.map es clk)) (hn : Instr.findNow (.int .i64) (.int .i64 k) es.toList 0 = some none) :
    (Instr.lookup mty (.map (some r)) (.int .i64 k) true).run Tryz.prog W = .ok (.tuple #[z, .bool false]) W := by
  unfold Instr.lookup
  rw [Sem.run_bind, run_underlying hm]
  simp only [Result.andThen_ok, Sem.run_bind, Sem.run_pure, MapKept.run_getObj_map hb, MapKept.run_checkKey Tryz.underlying33 (k := .int .i64 k) (rfl : IntKind.i64 = IntKind.i64) _ 9999, MapKept.run_findKey Tryz.underlying33 hn, hz]
  rfl
/-- The messages, in the order in which they are laid. -/
def msgK : List (Nat × List UInt8) := [(0, []), (2, [87, 72, 65, 84, 63]), (4, [83, 79, 77, 69, 84, 72, 73, 78, 71, 32, 73, 83, 32, 77, 73, 83, 83, 73, 78, 71]), (5, [84, 79, 79, 32, 76, 79, 78, 71]), (12, [66, 65, 68, 32, 67, 65, 76, 76]), (11, [66, 65, 68, 32, 80, 65, 84, 72]), (1, [66, 65, 68, 32, 78, 85, 77, 66, 69, 82]), (8, [65, 76, 82, 69, 65, 68, 89, 32, 67, 79, 78, 78, 69, 67, 84, 69, 68]), (6, [78, 79, 32, 82, 79, 79, 77]), (9, [78, 79, 84, 32, 67, 79, 78, 78, 69, 67, 84, 69, 68]), (7, [78, 79, 84, 32, 67, 79, 78, 78, 69, 67, 84, 69, 68])]
def msgE (n : Nat) : Array MapEntry := ((msgK.take n).zipIdx.map fun x => ({ key := .int .i64 x.1.1, val := .string ⟨x.1.2.toArray⟩, born := x.2 } : MapEntry)).toArray
theorem msg_put (n : Nat) (k : Int) (s : ByteArray) (hp : (msgE n).push { key := .int .i64 k, val := .string s, born := n } = msgE (n + 1)) (hn : Instr.findNow (.int .i64) (.int .i64 k) (msgE n).toList 0 = some none) (w : World) :
    (Instr.mapUpdate 96 (.map (some w.heap.size)) (.int .i64 k) (.string s)).run Tryz.prog (w.alloc (.map (msgE n) n)) = .ok () (w.alloc (.map (msgE (n + 1)) (n + 1))) := by
  rw [emap_put (w.alloc (.map (msgE n) n)) 96 9 w.heap.size n (msgE n) k (.string s) Tryz.underlying96 (heap_alloc_new w _) hn, mset_new, hp]
set_option maxHeartbeats 2000000 in
set_option maxRecDepth 100000 in
theorem messages_calls (w : World) : Calls Tryz.prog 51 #[] w fun e w' => e = .returned (.map (some w.heap.size)) ∧ w' = w.alloc (.map (msgE 11) 11) := by
  have hmk : (Instr.makeMap 96 none).run Tryz.prog w = .ok (.map (some w.heap.size)) (w.alloc (.map (msgE 0) 0)) := run_makeMap 96 w
  have p0 := msg_put 0 0 ⟨#[]⟩ rfl (by kernel_rfl) w
  have p1 := msg_put 1 2 ⟨#[87, 72, 65, 84, 63]⟩ rfl (by kernel_rfl) w
  have p2 := msg_put 2 4 ⟨#[83, 79, 77, 69, 84, 72, 73, 78, 71, 32, 73, 83, 32, 77, 73, 83, 83, 73, 78, 71]⟩ rfl (by kernel_rfl) w
  have p3 := msg_put 3 5 ⟨#[84, 79, 79, 32, 76, 79, 78, 71]⟩ rfl (by kernel_rfl) w
  have p4 := msg_put 4 12 ⟨#[66, 65, 68, 32, 67, 65, 76, 76]⟩ rfl (by kernel_rfl) w
  have p5 := msg_put 5 11 ⟨#[66, 65, 68, 32, 80, 65, 84, 72]⟩ rfl (by kernel_rfl) w
  have p6 := msg_put 6 1 ⟨#[66, 65, 68, 32, 78, 85, 77, 66, 69, 82]⟩ rfl (by kernel_rfl) w
  have p7 := msg_put 7 8 ⟨#[65, 76, 82, 69, 65, 68, 89, 32, 67, 79, 78, 78, 69, 67, 84, 69, 68]⟩ rfl (by kernel_rfl) w
  have p8 := msg_put 8 6 ⟨#[78, 79, 32, 82, 79, 79, 77]⟩ rfl (by kernel_rfl) w
  have p9 := msg_put 9 9 ⟨#[78, 79, 84, 32, 67, 79, 78, 78, 69, 67, 84, 69, 68]⟩ rfl (by kernel_rfl) w
  have p10 := msg_put 10 7 ⟨#[78, 79, 84, 32, 67, 79, 78, 78, 69, 67, 84, 69, 68]⟩ rfl (by kernel_rfl) w
  go_enter Tryz.func51, Tryz.ntmps51
  go_wp2_with (fail)
  go_ret
  exact ⟨rfl, rfl⟩
def msgL (k : Nat) : Option (List UInt8) := (msgK.find? fun x => x.1 == k).map (·.2)
def msgOk (k : Nat) : Bool := match Instr.findNow (.int .i64) (.int .i64 k) (msgE 11).toList 0 with
  | some (some (_, .string s)) => some s.data.toList == msgL k
  | some none => msgL k == none
  | _ => false
theorem msg_ok : ((List.range 13).all msgOk) = true := by kernel_rfl
theorem msg_key : ((msgE 11).toList.all fun x => match x.key with
  | .int .i64 k => decide (0 ≤ k ∧ k < 13)
  | _ => false) = true := by kernel_rfl
def errB (e : Int) : ByteArray := (⟨#[69, 82, 82, 79, 82, 32]⟩ : ByteArray) ++ itoaB e
/-- What stands of an error in the table. -/
def msgI (e : Int) : Option (List UInt8) := if 0 ≤ e ∧ e < 13 then msgL e.toNat else none
def msgB (e : Int) : ByteArray := match msgI e with
  | some s => ⟨s.toArray⟩
  | none => errB e
theorem msg_get (e : Int) (W : World) (r : Nat) (hb : W.heap[r]? = some (.map (msgE 11) 11)) : (Instr.lookup 96 (.map (some r)) (.int .i64 e) true).run Tryz.prog W = .ok (match msgI e with
    | some s => .tuple #[.string ⟨s.toArray⟩, .bool true]
    | none => .tuple #[.string ⟨#[]⟩, .bool false]) W := by
  unfold msgI
  by_cases hr : 0 ≤ e ∧ e < 13
  · rw [if_pos hr]
    obtain ⟨k, rfl⟩ := Int.eq_ofNat_of_zero_le hr.1
    have h := List.all_eq_true.1 msg_ok k (List.mem_range.2 (by omega))
    rw [Int.toNat_natCast]
    unfold msgOk at h
    split at h
    · rename_i s hs
      rw [← eq_of_beq h]
      exact emap_get _ 96 9 _ 11 (msgE 11) k _ _ Tryz.underlying96 hb hs
    · rename_i hs
      rw [eq_of_beq h]
      exact emap_miss _ 96 9 _ 11 (msgE 11) k _ Tryz.underlying96 (Tryz.zeroValue9 _) hb hs
    · cases h
  · rw [if_neg hr]
    have hs : Instr.findNow (.int .i64) (.int .i64 e) (msgE 11).toList 0 = some none := by
      rcases MapKept.findNow_spec (d := .int .i64) (k := .int .i64 e) (rfl : IntKind.i64 = IntKind.i64) (msgE 11).toList 0 (fun x hx => by
        have := List.all_eq_true.1 msg_key x hx
        split at this
        · rename_i hk
          rw [hk]
          exact (rfl : IntKind.i64 = IntKind.i64)
        · cases this) with ⟨h, -⟩ | ⟨j, x, -, h2, h3⟩
      · exact h
      · have := List.all_eq_true.1 msg_key x (List.mem_of_getElem? h2)
        rw [h3] at this
        exact absurd (of_decide_eq_true this) hr
    exact emap_miss _ 96 9 _ 11 (msgE 11) e _ Tryz.underlying96 (Tryz.zeroValue9 _) hb hs
set_option maxHeartbeats 2000000 in
set_option maxRecDepth 100000 in
theorem Message_calls (e : Int) (h0 : -9223372036854775808 ≤ e) (h1 : e ≤ 9223372036854775807) (w : World) (hE : EnvW w) :
    Calls Tryz.prog 26 #[.int .i64 e] w fun x w' => x = .returned (.string (msgB e)) ∧ Below w.heap.size w w' := by
  have HB := Aside0.mk ((Below.refl w.heap.size w).alloc (Nat.le_refl _) (.map (msgE 11) 11))
  have HE := Aside0.mk (hE.below HB.out)
  clear hE
  have hg := msg_get e (w.alloc (.map (msgE 11) 11)) w.heap.size (heap_alloc_new w _)
  cases hm : msgI e with
  | some s =>
    have HX := Aside0.mk (show msgB e = ⟨s.toArray⟩ by unfold msgB; rw [hm])
    rw [hm] at hg
    dsimp only at hg
    clear hm h0 h1
    go_enter Tryz.func26, Tryz.ntmps26
    go_wp2_with (go_at_call 51; refine (messages_calls _).mono ?_; rintro x w' ⟨rfl, rfl⟩)
    go_ret
    exact ⟨by rw [HX.out]; rfl, HB.out⟩
  | none =>
    have HX := Aside0.mk (show msgB e = errB e by unfold msgB; rw [hm])
    have HI := Aside0.mk (itoa_any e h0 h1 (w.alloc (.map (msgE 11) 11)) HE.out)
    have hsz : (itoaB e).size ≤ 30 := by
      have := Lib.itoa_length_le e h0 h1
      show (Lib.itoa e).toArray.size ≤ 30
      rw [List.size_toArray]
      omega
    rw [hm] at hg
    dsimp only at hg
    clear hm h0 h1
    go_enter Tryz.func26, Tryz.ntmps26
    go_wp2_with (first | (go_at_call 51; refine (messages_calls _).mono ?_; rintro x w' ⟨rfl, rfl⟩) | (go_at_call 52; refine HI.out.mono ?_; rintro x w' ⟨rfl, hb⟩; have HB2 := Aside0.mk hb; clear hb))
    go_ret
    exact ⟨by rw [HX.out]; rfl, HB.out.trans (HB2.out.mono HB.out.size)⟩
end Go.Proofs.YtgaboenipiojoaaGreatDoor.QAll
end

section
/- line.Editor: letters and the line's end. -/
set_option linter.unusedVariables false
set_option linter.unusedSimpArgs false
namespace Go.Proofs.YtgaboenipiojoaaGreatDoor.QAll
open Go.RowKit Go.Proofs.YtgaboenipiojoaaGreatDoorW.PrintWords Go.Proofs.YtgaboenipiojoaaGreatDoorW.PrintLast Go.Proofs.YtgaboenipiojoaaGreatDoorW.PrintMore
theorem einfo5 : (Tryz.prog.info? 5).map (fun i => (i.zero, i.size, i.bytes)) = some (some (.int .u8 0), 1, 1) := by kernel_rfl
/-- The editor at p: what is typed, and that nothing that was there at w1 has turned but p. -/
structure EdI (w0 w1 : World) (p : Nat) (bs : List Int) (ent : Bool) (vb : Value) (W : World) : Prop where
  b : Below w0.heap.size w0 W
  k : KB p w1 W
  a : W.heap[p]? = some (.cells #[vb, .bool ent, .int .i64 0] 127 (0, 0))
  r : (Kd.int .u8).R 5 W w0.heap.size (fun k => w1.heap.size ≤ k) vb bs
  hp : w0.heap.size ≤ p
  hq : p < w1.heap.size
theorem three_cell {w : World} {g : Nat} {t : TypeId} {x y z : Value} (h : w.heap[g]? = some (.cells #[x, y, z] t (0, 0))) : w.cell? ⟨g, 0, none⟩ = some x ∧ w.frozen? ⟨g, 0, none⟩ = false ∧ w.cell? ⟨g, 1, none⟩ = some y ∧ w.frozen? ⟨g, 1, none⟩ = false ∧ w.cell? ⟨g, 2, none⟩ = some z ∧ w.frozen? ⟨g, 2, none⟩ = false :=
  ⟨blk_cell h 0, blk_frozen h 0, blk_cell h 1, blk_frozen h 1, blk_cell h 2, blk_frozen h 2⟩
theorem KB.set2 (g i : Nat) (w : World) (u : Value) : KB g w (w.setCell ⟨g, i, none⟩ u) := by
  have h := (Below.refl g w).setCell (p := ⟨g, i, none⟩) (Nat.le_refl _) u
  exact ⟨h.os, h.tape, h.output, h.size, fun k _ hk => Below.heap_setCell w ⟨g, i, none⟩ u k hk⟩
theorem EdI.ent {w0 w1 W : World} {p : Nat} {bs : List Int} {e : Bool} {vb : Value} (h : EdI w0 w1 p bs e vb W) (e2 : Bool) : EdI w0 w1 p bs e2 vb (W.setCell ⟨p, 1, none⟩ (.bool e2)) :=
  ⟨h.b.setCell h.hp _, h.k.trans (KB.set2 p 1 W _), blk_set h.a 1 _, Kd.R_far h.r (fun k hk => by have := hk; have := h.hq; show k ≠ p; omega) _, h.hp, h.hq⟩
theorem EdI.put {w0 w1 W W' : World} {p : Nat} {bs cs : List Int} {e : Bool} {vb v1 : Value} (h : EdI w0 w1 p bs e vb W) (ho : (Kd.int .u8).R 5 W' w0.heap.size (fun k => w1.heap.size ≤ k) v1 cs) (hb : Below w0.heap.size w0 W') (hg : W.grownBy W' vb.ownBlock) : EdI w0 w1 p cs e v1 (W'.setCell ⟨p, 0, none⟩ v1) := by
  have hne : ∀ k, k < w1.heap.size → some k ≠ vb.ownBlock := fun k hk e => by have := h.r.1 _ e.symm; omega
  have hlt := blk_lt h.a
  have hk : KB p w1 W' := ⟨hb.os.trans (h.b.os.symm.trans h.k.os), hb.tape.trans (h.b.tape.symm.trans h.k.tape), hb.output.trans (h.b.output.symm.trans h.k.output), Nat.le_trans h.k.size hg.size, fun k hk hkp => (hg.block k (Nat.lt_of_lt_of_le hk h.k.size) (hne k hk)).trans (h.k.block k hk hkp)⟩
  have ha : W'.heap[p]? = some (.cells #[vb, .bool e, .int .i64 0] 127 (0, 0)) := (hg.block p hlt (hne p h.hq)).trans h.a
  exact ⟨hb.setCell h.hp _, hk.trans (KB.set2 p 0 W' _), blk_set ha 0 _, Kd.R_far ho (fun k hk => by have := hk; have := h.hq; show k ≠ p; omega) _, h.hp, h.hq⟩
set_option maxHeartbeats 2000000 in
set_option maxRecDepth 100000 in
theorem letter_calls (w0 w1 : World) (p : Nat) (bs : List Int) (ent : Bool) (vb : Value) (c : Int) (W : World) (hn : bs.length < 100) (h : EdI w0 w1 p bs ent vb W) :
    Calls Tryz.prog 107 #[.pointer (some ⟨p, 0, none⟩), .int .u8 c] W fun e W' => e = .returned (.tuple #[]) ∧ ∃ v1, EdI w0 w1 p (bs ++ [c]) ent v1 W' := by
  obtain ⟨k0, k1, k2, k3, k4, k5⟩ := three_cell h.a
  have H := Aside0.mk h
  obtain ⟨A, c', hv⟩ := Kd.R_slice h.r
  subst hv
  clear h
  have hl : ¬ (120 : Int) ≤ (bs.length : Int) := by omega
  go_enter Tryz.func107, Tryz.ntmps107
  go_wp2_with ((at_builtin; refine Kd.R_append (Kd.int .u8) (w0 := w0) w0.heap.size rfl (.tmp 21) (.tmp 23) 50 5 (.int .u8 0) 1 rfl Tryz.underlying50 einfo5 rfl (by decide) (by omega) _ bs c [.int .u8 c] (fun k => w1.heap.size ≤ k) (fun _ => False) rfl rfl rfl (fun _ hk => hk.elim) (fun k hk => Nat.le_trans H.out.k.size hk) H.out.r H.out.b H.out.b.size (by omega) ?_; intro v1 wd ho hbd hgd hat; obtain ⟨A1, c1, hv1⟩ := Kd.R_slice ho; subst hv1; have HX := Aside0.mk (H.out.put ho hbd hgd); obtain ⟨j0, j1, j2, j3, j4, j5⟩ := three_cell ((hgd.block p (blk_lt H.out.a) (fun e => by have := H.out.r.1 _ e.symm; have := H.out.hq; omega)).trans H.out.a); clear ho hbd hgd hat))
  go_end0
  exact ⟨rfl, _, by have := HX.out; rw [List.length_append, List.length_singleton] at this; exact this⟩
set_option maxHeartbeats 2000000 in
set_option maxRecDepth 100000 in
theorem key_letter (w0 w1 : World) (p : Nat) (bs : List Int) (ent : Bool) (vb out : Value) (c : Int) (W : World) (hn : bs.length < 100) (h0 : 32 ≤ c) (h1 : c < 127) (h : EdI w0 w1 p bs ent vb W) :
    Calls Tryz.prog 83 #[.pointer (some ⟨p, 0, none⟩), .int .u8 c, out] W fun e W' => e = .returned out ∧ ∃ v1, EdI w0 w1 p (bs ++ [c]) false v1 W' := by
  obtain ⟨k0, k1, k2, k3, k4, k5⟩ := three_cell h.a
  have H := Aside0.mk (letter_calls w0 w1 p bs false vb c _ hn (h.ent false))
  clear h
  have e0 : (c == 13) = false := by simp; omega
  have e1 : (c == 10) = false := by simp; omega
  have e2 : (c == 8) = false := by simp; omega
  have e3 : (c == 127) = false := by simp; omega
  have e4 : (c == 21) = false := by simp; omega
  have e5 : (c == 23) = false := by simp; omega
  have e6 : (c == 3) = false := by simp; omega
  go_enter Tryz.func83, Tryz.ntmps83
  go_wp2_with (fail)
  refine H.out.mono ?_
  rintro e w2 ⟨rfl, v1, h2⟩
  have H2 := Aside0.mk h2
  clear h2
  go_wp2_with (fail)
  go_ret
  exact ⟨rfl, v1, H2.out⟩
end Go.Proofs.YtgaboenipiojoaaGreatDoor.QAll
end

section
/- line.Editor: a line is told; Type of a line and its end. -/
set_option linter.unusedVariables false
set_option linter.unusedSimpArgs false
namespace Go.Proofs.YtgaboenipiojoaaGreatDoor.QAll
open Go.RowKit Go.Proofs.YtgaboenipiojoaaGreatDoorW.PrintWords Go.Proofs.YtgaboenipiojoaaGreatDoorW.PrintLast Go.Proofs.YtgaboenipiojoaaGreatDoorW.PrintMore
theorem einfo101 : (Tryz.prog.info? 101).map (fun i => (i.zero, i.size, i.bytes)) = some (some (.agg #[.string ⟨#[]⟩, .bool false]), 2, 24) := by kernel_rfl
/-- One line that is told: in a new row of its own. -/
def ToldR (N : Nat) (s : ByteArray) (v : Value) (W : World) : Prop := ∃ g c, v = .slice (some ⟨g, 0, none⟩) 1 c ∧ N ≤ g ∧ g < W.heap.size ∧ W.cell? ⟨g, 0, none⟩ = some (.string s) ∧ W.cell? ⟨g, 1, none⟩ = some (.bool false)
theorem ToldR.of_own {N : Nat} {s : ByteArray} {v u : Value} {W w1 : World} {base : Nat} (h : w1.ownsRow base 101 2 v (0 + 1) ([] ++ [.string s, .bool false])) (hat : v.ownBlock = (Value.slice none 0 0).ownBlock ∨ ∃ b, v.ownBlock = some b ∧ W.heap.size ≤ b) (hN : N ≤ W.heap.size) : ToldR N s v w1 := by
  have hc := fun g hg => World.ownsRow.cells h (g := g) hg
  obtain ⟨h1, h2⟩ := h
  rcases h2 with ⟨-, h2⟩ | ⟨g, cap, cur, rfl, hg, hh, r⟩
  · omega
  · refine ⟨g, cap, rfl, ?_, blk_lt hh, ?_, ?_⟩
    · rcases hat with hat | ⟨b, hat, hb⟩
      · simp [Value.ownBlock] at hat
      · have : g = b := by simpa [Value.ownBlock] using hat
        omega
    · exact hc g rfl 0 _ rfl
    · exact hc g rfl 1 _ rfl
theorem ToldR.set {N : Nat} {s : ByteArray} {v u : Value} {W : World} (h : ToldR N s v W) {p : Addr} (hp : p.block < N) : ToldR N s v (W.setCell p u) := by
  obtain ⟨g, c, rfl, h1, h2, h3, h4⟩ := h
  have hb := Below.heap_setCell W p u g (by omega)
  exact ⟨g, c, rfl, h1, by rw [World.size_setCell]; exact h2, by rw [← h3]; simp [World.cell?, hb], by rw [← h4]; simp [World.cell?, hb]⟩
set_option maxHeartbeats 2000000 in
set_option maxRecDepth 100000 in
theorem tell_calls (w0 w1 : World) (p : Nat) (bs : List Int) (ent : Bool) (vb : Value) (W : World) (h : EdI w0 w1 p bs ent vb W) :
    Calls Tryz.prog 105 #[.pointer (some ⟨p, 0, none⟩), .slice none 0 0] W fun e W' => ∃ v, e = .returned v ∧ ToldR w1.heap.size (strOfNums bs) v W' ∧ EdI w0 w1 p [] ent (.slice none 0 0) W' := by
  obtain ⟨k0, k1, k2, k3, k4, k5⟩ := three_cell h.a
  have H := Aside0.mk h
  obtain ⟨A, c', hv, hle, hC⟩ := Kd.R_reads h.r
  have hcv := Kd.C_string Tryz.underlying50 Tryz.underlying5 Tryz.underlying9 (c := c') hC
  subst hv
  clear h hC
  go_enter Tryz.func105, Tryz.ntmps105
  go_wp2_with ((at_builtin; refine print_append_cells (w0 := w0) w0.heap.size rfl (.tmp 5) (.tmp 12) 98 101 (.agg #[.string ⟨#[]⟩, .bool false]) 2 24 rfl Tryz.underlying98 einfo101 rfl (by decide) (by omega) (.slice none 0 0) 0 [] [.string (strOfNums bs), .bool false] rfl rfl rfl (by intro u hu; simp at hu; rcases hu with rfl | rfl <;> rfl) (own_nil _ _ _ _) H.out.b H.out.b.size (by omega) ?_; intro v1 wd ho hbd hgd hat; have HT := Aside0.mk (ToldR.of_own (u := .slice none 0 0) ho hat H.out.k.size); have HX := Aside0.mk (H.out.put (cs := []) (v1 := .slice none 0 0) (Kd.R_nil _ _ _ _ _) hbd ⟨hgd.os, hgd.tape, hgd.output, hgd.size, fun i hi _ => hgd.block i hi (by simp [Value.ownBlock])⟩); obtain ⟨j0, j1, j2, j3, j4, j5⟩ := three_cell ((hgd.block p (blk_lt H.out.a) (by simp [Value.ownBlock])).trans H.out.a); obtain ⟨g1, c1, hv1, -⟩ := HT.out; subst hv1; clear ho hbd hgd hat))
  go_ret
  exact ⟨_, rfl, HT.out.set H.out.hq, HX.out⟩
set_option maxHeartbeats 2000000 in
set_option maxRecDepth 100000 in
theorem key_enter (w0 w1 : World) (p : Nat) (bs : List Int) (vb : Value) (W : World) (h : EdI w0 w1 p bs false vb W) :
    Calls Tryz.prog 83 #[.pointer (some ⟨p, 0, none⟩), .int .u8 13, .slice none 0 0] W fun e W' => ∃ v, e = .returned v ∧ ToldR w1.heap.size (strOfNums bs) v W' ∧ EdI w0 w1 p [] true (.slice none 0 0) W' := by
  obtain ⟨k0, k1, k2, k3, k4, k5⟩ := three_cell h.a
  have H := Aside0.mk (tell_calls w0 w1 p bs true vb _ (h.ent true))
  clear h
  go_enter Tryz.func83, Tryz.ntmps83
  go_wp2_with (fail)
  refine H.out.mono ?_
  rintro e w2 ⟨v, rfl, h2⟩
  have H2 := Aside0.mk h2
  clear h2
  go_wp2_with (fail)
  go_ret
  exact ⟨v, rfl, H2.out⟩
set_option maxHeartbeats 4000000 in
set_option maxRecDepth 100000 in
theorem EType_calls (w0 : World) (p q n : Nat) (s : ByteArray) (W : World) (hs : s.size = n + 1) (hn : n < 100) (hl : ∀ j : Nat, j < n → 32 ≤ bt s j ∧ bt s j < 127) (he : bt s n = 13) (hw : Below w0.heap.size w0 W) (hp : w0.heap.size ≤ p)
    (hE : W.heap[p]? = some (.cells #[.slice none 0 0, .bool false, .int .i64 0] 127 (0, 0))) (hq : W.cell? ⟨q, 0, none⟩ = some (.string s)) :
    Calls Tryz.prog 54 #[.pointer (some ⟨p, 0, none⟩), .slice (some ⟨q, 0, none⟩) 1 1] W fun e W' => ∃ v, e = .returned v ∧ ToldR W.heap.size (strOfNums ((bytesOf s).take n)) v W' ∧ KB p W W' ∧ Below w0.heap.size w0 W' ∧ W'.heap[p]? = some (.cells #[.slice none 0 0, .bool true, .int .i64 0] 127 (0, 0)) := by
  have kb := fun W => print_bytes (P := Tryz.prog) 9 50 5 Tryz.underlying9 Tryz.underlying50 Tryz.underlying5 s W
  have hsz := Lib.bytesWorld_size W 5 s
  have HK := Aside0.mk (KB.of_below (g := p) (Lib.bytesWorld_below W 5 s))
  have HR := Aside0.mk (bytes_reads W 5 s (by omega))
  have HL := Aside0.mk hl
  have HN := Aside0.mk he
  have HI : Aside0 (EdI w0 (Lib.bytesWorld W 5 s) p [] false (.slice none 0 0) (Lib.bytesWorld W 5 s)) := ⟨⟨bytes_below hw hw.size 5 s, KB.refl _ _, blk_below hE (Lib.bytesWorld_below W 5 s), Kd.R_nil _ _ _ _ _, hp, by have := blk_lt hE; omega⟩⟩
  have hpW := Aside0.mk (blk_lt hE)
  clear hE hl he hw hp
  go_enter Tryz.func54, Tryz.ntmps54
  go_wp2_with (fail)
  go_loopw [5, 14] (fun v5 v14 wr => (v14 = .int .i64 0 ∧ wr = W ∧ v5 = .slice none 0 0) ∨ (v14 = .int .i64 1 ∧ Aside0 (EdI w0 (Lib.bytesWorld W 5 s) p [] true (.slice none 0 0) wr ∧ ToldR (Lib.bytesWorld W 5 s).heap.size (strOfNums ((bytesOf s).take n)) v5 wr))) (fun _ v14 _ => 1 - (intOf v14).toNat)
  case atStart => exact Or.inl ⟨rfl, rfl, rfl⟩
  case round =>
    rcases hrel with ⟨rfl, rfl, rfl⟩ | ⟨rfl, HZ⟩
    · obtain ⟨wo, rfl⟩ : ∃ wo, wo = wr := ⟨_, rfl⟩
      go_wp2_with (fail)
      generalize hW1 : Lib.bytesWorld wo 5 s = W1 at hsz HK HR HI ⊢
      go_loopw [5, 21] (fun v5 v21 wx => ∃ j : Nat, v21 = .int .i64 j ∧ Aside0 ((j ≤ n ∧ v5 = .slice none 0 0 ∧ ∃ vb, EdI w0 W1 p ((bytesOf s).take j) false vb wx) ∨ (j = n + 1 ∧ EdI w0 W1 p [] true (.slice none 0 0) wx ∧ ToldR W1.heap.size (strOfNums ((bytesOf s).take n)) v5 wx))) (fun _ v21 _ => n + 1 - (intOf v21).toNat)
      case atStart => exact ⟨0, rfl, ⟨Or.inl ⟨by omega, rfl, _, by rw [List.take_zero]; exact HI.out⟩⟩⟩
      case round =>
        obtain ⟨j, rfl, HJ⟩ := hrel
        have hcell : ∀ wy : World, KB p W1 wy → j < n + 1 → wy.cell? ⟨wo.heap.size, j, none⟩ = some (.int .u8 (bt s j)) := fun wy hk hj => by
          have hb := hk.block wo.heap.size (by omega) (fun e => by have := hpW.out; omega)
          have h1 : W1.cell? ⟨wo.heap.size, j, none⟩ = some (.int .u8 (bt s j)) := by
            rw [← hW1, Lib.bytesWorld_cell wo 5 s j (by omega)]
            have hjs : j < s.size := by omega
            simp [bt, hjs]
            rfl
          rw [← h1]
          simp [World.cell?, hb]
        rcases HJ.out with ⟨hj, rfl, vb, hX⟩ | ⟨rfl, hX, hT⟩
        · have hc := hcell wr hX.k (by omega)
          clear hcell
          have hlt : (j : Int) < (s.size : Int) := by omega
          by_cases hjn : j < n
          · have hb := HL.out j hjn
            have HC := Aside0.mk (key_letter w0 W1 p ((bytesOf s).take j) false vb (.slice none 0 0) (bt s j) wr (by rw [List.length_take]; omega) hb.1 hb.2 hX)
            have HS := Aside0.mk (show (bytesOf s).take j ++ [bt s j] = (bytesOf s).take (j + 1) by
              rw [List.take_succ_eq_append_getElem (by rw [bytesOf_length]; omega)]
              congr 2
              have h1 := rd_bytesOf s (j : Int)
              rw [← h1]
              simp [rd, List.getD_eq_getElem?_getD, List.getElem?_eq_getElem (show j < (bytesOf s).length by rw [bytesOf_length]; omega)])
            clear hX hb HJ
            generalize bt s j = c at hc HC HS
            go_wp2_with (fail)
            refine HC.out.mono ?_
            rintro e w4 ⟨rfl, v1, h4⟩
            have H4 := Aside0.mk h4
            clear h4 HC
            go_wp2_with (fail)
            go_roundw
            case rel => exact ⟨j + 1, by go_num, ⟨Or.inl ⟨by omega, rfl, v1, by rw [← HS.out]; exact H4.out⟩⟩⟩
            case measure => simp [intOf] <;> omega
          · obtain rfl : j = n := by omega
            have HC := Aside0.mk (key_enter w0 W1 p ((bytesOf s).take j) vb wr hX)
            rw [HN.out] at hc
            clear hX HJ
            go_wp2_with (fail)
            refine HC.out.mono ?_
            rintro e w4 ⟨v, rfl, h4⟩
            have H4 := Aside0.mk h4
            clear h4 HC
            go_wp2_with (fail)
            go_roundw
            case rel => exact ⟨j + 1, by go_num, ⟨Or.inr ⟨rfl, H4.out.2, H4.out.1⟩⟩⟩
            case measure => simp [intOf] <;> omega
        · have H4 := Aside0.mk (And.intro hX hT)
          have hlt : ¬ ((n + 1 : Nat) : Int) < (s.size : Int) := by omega
          clear hX hT HJ hcell
          go_wp2_with (fail)
          go_roundw
          case rel => exact Or.inr ⟨rfl, ⟨by rw [hW1]; exact H4.out.1, by rw [hW1]; exact H4.out.2⟩⟩
          case measure => simp [intOf] <;> omega
    · have H4 := HZ
      clear HI
      go_wp2_with (fail)
      go_ret
      refine ⟨_, rfl, ?_, HK.out.trans H4.out.1.k, H4.out.1.b, H4.out.1.a⟩
      obtain ⟨g, c, rfl, h1, h2, h3, h4⟩ := H4.out.2
      exact ⟨g, c, rfl, by have := h1; omega, h2, h3, h4⟩
end Go.Proofs.YtgaboenipiojoaaGreatDoor.QAll
end

section
/- shell.say and shell.fails: a line more. -/
set_option linter.unusedVariables false
set_option linter.unusedSimpArgs false
namespace Go.Proofs.YtgaboenipiojoaaGreatDoor.QAll
open Go.RowKit Go.Proofs.YtgaboenipiojoaaGreatDoorW.PrintWords Go.Proofs.YtgaboenipiojoaaGreatDoorW.PrintLast Go.Proofs.YtgaboenipiojoaaGreatDoorW.PrintMore
theorem einfo9 : (Tryz.prog.info? 9).map (fun i => (i.zero, i.size, i.bytes)) = some (some (.string ⟨#[]⟩), 1, 16) := by kernel_rfl
/-- What a shell holds beside its lines. -/
structure Sh where
  E : Value
  o : ByteArray
  sid : Int
  conv : Bool
  cur : Int
  m : Value
def Sh.cells (h : Sh) (lv : Value) : Array Value := #[h.E, .string h.o, .int .i64 h.sid, .bool h.conv, .int .i64 h.cur, h.m, lv, .int .i64 0]
/-- The shell at p, and its lines, in a row that is younger than w1. -/
structure ShI (w0 w1 : World) (p : Nat) (h : Sh) (ls : List ByteArray) (lv : Value) (W : World) : Prop where
  b : Below w0.heap.size w0 W
  k : w1.heap.size ≤ W.heap.size
  a : W.heap[p]? = some (.cells #[h.E, .string h.o, .int .i64 h.sid, .bool h.conv, .int .i64 h.cur, h.m, lv, .int .i64 0] 90 (0, 0))
  r : Kd.string.R 9 W w0.heap.size (fun k => w1.heap.size ≤ k) lv ls
  hp : w0.heap.size ≤ p
  hq : p < w1.heap.size
theorem eight_cell {w : World} {g : Nat} {t : TypeId} {x0 x1 x2 x3 x4 x5 x6 x7 : Value} (h : w.heap[g]? = some (.cells #[x0, x1, x2, x3, x4, x5, x6, x7] t (0, 0))) : w.cell? ⟨g, 0, none⟩ = some x0 ∧ w.cell? ⟨g, 3, none⟩ = some x3 ∧ w.frozen? ⟨g, 3, none⟩ = false ∧ w.cell? ⟨g, 4, none⟩ = some x4 ∧ w.frozen? ⟨g, 4, none⟩ = false ∧ w.cell? ⟨g, 5, none⟩ = some x5 ∧ w.cell? ⟨g, 6, none⟩ = some x6 ∧ w.frozen? ⟨g, 6, none⟩ = false ∧ w.cell? ⟨g, 7, none⟩ = some x7 :=
  ⟨blk_cell h 0, blk_cell h 3, blk_frozen h 3, blk_cell h 4, blk_frozen h 4, blk_cell h 5, blk_cell h 6, blk_frozen h 6, blk_cell h 7⟩
theorem ShI.below {w0 w1 W W' : World} {p : Nat} {h : Sh} {ls : List ByteArray} {lv : Value} (H : ShI w0 w1 p h ls lv W) (hb : Below W.heap.size W W') : ShI w0 w1 p h ls lv W' :=
  ⟨below_then H.b H.b.size hb, Nat.le_trans H.k hb.size, blk_below H.a hb, Kd.R_below H.r hb, H.hp, H.hq⟩
theorem ShI.put {w0 w1 W W' : World} {p : Nat} {h : Sh} {ls ks : List ByteArray} {lv v1 : Value} (H : ShI w0 w1 p h ls lv W) (ho : Kd.string.R 9 W' w0.heap.size (fun k => w1.heap.size ≤ k) v1 ks) (hb : Below w0.heap.size w0 W') (hg : W.grownBy W' lv.ownBlock) : ShI w0 w1 p h ks v1 (W'.setCell ⟨p, 6, none⟩ v1) ∧ KeepBut W (W'.setCell ⟨p, 6, none⟩ v1) p lv.ownBlock := by
  have hne : ∀ k, k < w1.heap.size → some k ≠ lv.ownBlock := fun k hk e => by have := H.r.1 _ e.symm; omega
  have hlt := blk_lt H.a
  have ha := (hg.block p hlt (hne p H.hq)).trans H.a
  exact ⟨⟨hb.setCell H.hp _, by rw [World.size_setCell]; exact Nat.le_trans H.k hg.size, blk_set ha 6 _, Kd.R_far ho (fun k hk => by have := hk; have := H.hq; show k ≠ p; omega) _, H.hp, H.hq⟩, (KeepBut.of_grown hg p).set_ 6 v1⟩
/-- A call on another block g (the editor's). -/
theorem ShI.kb {w0 w1 W W' : World} {p g : Nat} {h : Sh} {ls : List ByteArray} {lv : Value} (H : ShI w0 w1 p h ls lv W) (hk : KB g W W') (hg0 : w0.heap.size ≤ g) (hg : g ≠ p) (hl : g < w1.heap.size) : ShI w0 w1 p h ls lv W' :=
  ⟨hk.below H.b hg0 H.b.size, Nat.le_trans H.k hk.size, (hk.block p (blk_lt H.a) (Ne.symm hg)).trans H.a, Kd.R_step H.r (fun k ho hlt => hk.block k hlt (by omega)), H.hp, H.hq⟩
set_option maxHeartbeats 4000000 in
set_option maxRecDepth 100000 in
theorem say_calls (w0 w1 : World) (p q : Nat) (h : Sh) (ls : List ByteArray) (lv : Value) (x : ByteArray) (W : World) (hn : ls.length < 64) (H : ShI w0 w1 p h ls lv W) (hx : W.cell? ⟨q, 0, none⟩ = some (.string x)) :
    Calls Tryz.prog 49 #[.pointer (some ⟨p, 0, none⟩), .slice (some ⟨q, 0, none⟩) 1 1] W fun e W' => e = .returned (.tuple #[]) ∧ (∃ v1, ShI w0 w1 p h (ls ++ [x]) v1 W') ∧ KeepBut W W' p lv.ownBlock := by
  have HH := Aside0.mk H
  clear H
  have hl : ¬ (64 : Int) ≤ (ls.length : Int) := by omega
  go_enter Tryz.func49, Tryz.ntmps49
  go_wp2_with (fail)
  go_loopw [5, 8] (fun _ v8 wr => (v8 = .int .i64 0 ∧ wr = W) ∨ (v8 = .int .i64 1 ∧ Aside0 ((∃ v1, ShI w0 w1 p h (ls ++ [x]) v1 wr) ∧ KeepBut W wr p lv.ownBlock))) (fun _ v8 _ => 1 - (intOf v8).toNat)
  case atStart => exact Or.inl ⟨rfl, rfl⟩
  case round =>
    rcases hrel with ⟨rfl, rfl⟩ | ⟨rfl, HZ⟩
    · obtain ⟨k0, k1, k2, k3, k4, k5, k6, k7, k8⟩ := eight_cell HH.out.a
      obtain ⟨A, c', hv⟩ := Kd.R_slice HH.out.r
      subst hv
      go_wp2_with ((at_builtin; refine Kd.R_append Kd.string (w0 := w0) w0.heap.size rfl (.tmp 29) (.tmp 31) 24 9 (.string ⟨#[]⟩) 16 rfl Tryz.underlying24 einfo9 rfl (by decide) (by omega) _ ls x [.string x] (fun k => w1.heap.size ≤ k) (fun _ => False) rfl rfl rfl (fun _ hk => hk.elim) (fun k hk => Nat.le_trans HH.out.k hk) HH.out.r HH.out.b HH.out.b.size (by omega) ?_; intro v1 wd ho hbd hgd hat; obtain ⟨A1, c1, hv1⟩ := Kd.R_slice ho; subst hv1; have HX := Aside0.mk (HH.out.put ho hbd hgd); obtain ⟨j0, j1, j2, j3, j4, j5, j6, j7, j8⟩ := eight_cell ((hgd.block p (blk_lt HH.out.a) (fun e => by have := HH.out.r.1 _ e.symm; have := HH.out.hq; omega)).trans HH.out.a); clear ho hbd hgd hat))
      go_roundw
      case rel => exact Or.inr ⟨rfl, ⟨⟨_, by have := HX.out.1; rw [List.length_append, List.length_singleton] at this; exact this⟩, by have := HX.out.2; rw [List.length_append, List.length_singleton] at this; exact this⟩⟩
      case measure => simp [intOf] <;> omega
    · go_wp2_with (fail)
      go_end0
      exact ⟨rfl, HZ.out⟩
set_option maxHeartbeats 2000000 in
set_option maxRecDepth 100000 in
theorem fails_calls (w0 w1 : World) (p : Nat) (h : Sh) (ls : List ByteArray) (lv : Value) (x : Int) (h0 : -9223372036854775808 ≤ x) (h1 : x ≤ 9223372036854775807) (hz : (msgB x).size ≤ 1000) (W : World) (hE : EnvW W) (hn : ls.length < 64) (H : ShI w0 w1 p h ls lv W) :
    Calls Tryz.prog 48 #[.pointer (some ⟨p, 0, none⟩), .int .i64 x] W fun e W' => e = .returned (.tuple #[]) ∧ (∃ v1, ShI w0 w1 p h (ls ++ [(⟨#[42, 42, 42, 32]⟩ : ByteArray) ++ msgB x]) v1 W') ∧ KeepBut W W' p lv.ownBlock := by
  have HM := Aside0.mk (Message_calls x h0 h1 W hE)
  have HH := Aside0.mk H
  clear H hE h0 h1
  go_enter Tryz.func48, Tryz.ntmps48
  go_wp2_with (fail)
  refine HM.out.mono ?_
  rintro e w2 ⟨rfl, hb⟩
  have H2 := Aside0.mk (HH.out.below hb)
  have HB := Aside0.mk hb
  clear hb HM HH
  go_wp2_with (fail)
  have HN := Aside0.mk (say_calls w0 w1 p w2.heap.size h ls lv ((⟨#[42, 42, 42, 32]⟩ : ByteArray) ++ msgB x) _ hn (H2.out.below ((Below.refl _ _).alloc (Nat.le_refl _) (.cells #[.string ((⟨#[42, 42, 42, 32]⟩ : ByteArray) ++ msgB x)] 9))) (blk_cell (heap_alloc_new w2 (.cells #[.string ((⟨#[42, 42, 42, 32]⟩ : ByteArray) ++ msgB x)] 9 (0, 0))) 0))
  refine HN.out.mono ?_
  rintro e w3 ⟨rfl, h3, hk⟩
  have H3 := Aside0.mk h3
  have HK := Aside0.mk (((KeepBut.of_below HB.out p lv.ownBlock).trans (KeepBut.of_below ((Below.refl _ _).alloc (Nat.le_refl _) (.cells #[.string ((⟨#[42, 42, 42, 32]⟩ : ByteArray) ++ msgB x)] 9)) p lv.ownBlock) (Or.inl rfl)).trans hk (Or.inl rfl))
  clear h3 hk HN
  go_wp2_with (fail)
  go_end0
  exact ⟨rfl, H3.out, HK.out⟩
end Go.Proofs.YtgaboenipiojoaaGreatDoor.QAll
end

section
/- shell: a line that is no command; Lines. -/
set_option linter.unusedVariables false
set_option linter.unusedSimpArgs false
namespace Go.Proofs.YtgaboenipiojoaaGreatDoor.QAll
open Go.RowKit Go.Proofs.YtgaboenipiojoaaGreatDoorW.PrintWords Go.Proofs.YtgaboenipiojoaaGreatDoorW.PrintLast Go.Proofs.YtgaboenipiojoaaGreatDoorW.PrintMore
def starB : ByteArray := ⟨#[42, 42, 42, 32]⟩
set_option maxHeartbeats 4000000 in
set_option maxRecDepth 100000 in
theorem command_err (w0 w1 : World) (p : Nat) (h : Sh) (ls : List ByteArray) (lv : Value) (s : ByteArray) (hs : s.size ≤ 1000000) (k n : Int) (b : ByteArray) (ss : Int) (vl : List (ByteArray × Int)) (tl : Pure.L8) (er : Int) (hp : Pure.parseN s.data.toList = (⟨k, n, (b, ss), vl, tl⟩, er))
    (e0 : (er == 0) = false) (e7 : (er == 7) = false) (h0 : -9223372036854775808 ≤ er) (h1 : er ≤ 9223372036854775807) (hz : (msgB er).size ≤ 1000) (W : World) (hE : EnvW W) (hn : ls.length < 64) (H : ShI w0 w1 p h ls lv W) :
    Calls Tryz.prog 55 #[.pointer (some ⟨p, 0, none⟩), .string s] W fun e W' => e = .returned (.slice none 0 0) ∧ (∃ v1, ShI w0 w1 p h (ls ++ [starB ++ msgB er]) v1 W') ∧ KeepBut W W' p lv.ownBlock := by
  have HP := Aside0.mk (parse_at s hs k n b ss vl tl er hp W hE)
  have HH := Aside0.mk H
  have HE := Aside0.mk hE
  have HI := Aside0.mk (And.intro h0 (And.intro h1 hz))
  clear H hE h0 h1 hz hp
  go_enter Tryz.func55, Tryz.ntmps55
  go_wp2_with (fail)
  refine HP.out.mono ?_
  rintro e w2 ⟨hb, l, tx, A, cap, rfl, -, -, -, -⟩
  have HB := Aside0.mk (hb.alloc hb.size (.cells #[.int .i64 k, .int .i64 n, .string b, .int .i64 ss, .slice A l.length cap, .string tx] 32 (0, 0)))
  clear hb HP
  have HF := Aside0.mk (fails_calls w0 w1 p h ls lv er HI.out.1 HI.out.2.1 HI.out.2.2 _ (HE.out.below HB.out) hn (HH.out.below HB.out))
  have er0 : (er != 0) = true := by simpa [bne] using e0
  go_wp2_with (fail)
  refine HF.out.mono ?_
  rintro e w3 ⟨rfl, h3, hk⟩
  have H3 := Aside0.mk h3
  have HK := Aside0.mk ((KeepBut.of_below HB.out p lv.ownBlock).trans hk (Or.inl rfl))
  clear h3 hk HF
  go_wp2_with (fail)
  go_ret
  exact ⟨rfl, H3.out, HK.out⟩
set_option maxHeartbeats 2000000 in
set_option maxRecDepth 100000 in
theorem Lines_calls (w0 w1 : World) (p : Nat) (h : Sh) (ls : List ByteArray) (lv : Value) (W : World) (H : ShI w0 w1 p h ls lv W) :
    Calls Tryz.prog 20 #[.pointer (some ⟨p, 0, none⟩)] W fun e W' => e = .returned lv ∧ Kd.string.R 9 W' w0.heap.size (fun k => w1.heap.size ≤ k) lv ls ∧ ShI w0 w1 p h [] (.slice none 0 0) W' ∧ KeepBut W W' p none := by
  obtain ⟨k0, k1, k2, k3, k4, k5, k6, k7, k8⟩ := eight_cell H.a
  have HX := Aside0.mk (show ShI w0 w1 p h [] (.slice none 0 0) (W.setCell ⟨p, 6, none⟩ (.slice none 0 0)) from ⟨H.b.setCell H.hp _, by rw [World.size_setCell]; exact H.k, blk_set H.a 6 _, Kd.R_nil _ _ _ _ _, H.hp, H.hq⟩)
  have HR := Aside0.mk (Kd.R_far H.r (p := ⟨p, 6, none⟩) (fun k hk => by have := hk; have := H.hq; show k ≠ p; omega) (.slice none 0 0))
  have HK := Aside0.mk ((KeepBut.refl W p none).set_ 6 (.slice none 0 0))
  obtain ⟨A, c', hv⟩ := Kd.R_slice H.r
  subst hv
  clear H
  go_enter Tryz.func20, Tryz.ntmps20
  go_wp2_with (fail)
  go_ret
  exact ⟨rfl, HR.out, HX.out, HK.out⟩
end Go.Proofs.YtgaboenipiojoaaGreatDoor.QAll
end

section
/- shell.Type of a line that is no command. -/
set_option linter.unusedVariables false
set_option linter.unusedSimpArgs false
namespace Go.Proofs.YtgaboenipiojoaaGreatDoor.QAll
open Go.RowKit Go.Proofs.YtgaboenipiojoaaGreatDoorW.PrintWords Go.Proofs.YtgaboenipiojoaaGreatDoorW.PrintLast Go.Proofs.YtgaboenipiojoaaGreatDoorW.PrintMore
theorem append_nils (w : World) : (Builtin.append_ #[61, 61] 61 #[.slice none 0 0, .slice none 0 0]).run Tryz.prog w = .ok (.slice none 0 0) w := by
  obtain ⟨i0, hi, hz⟩ := Option.map_eq_some_iff.1 (show (Tryz.prog.info? 56).map (fun i => i.size) = some 9 by kernel_rfl)
  simp [Builtin.append_, run_underlying Tryz.underlying61, sizeOf, typeInfo, hi, Builtin.lenOf, Builtin.firstCells, loadCells, loadCellsFrom, storeCells]
set_option maxHeartbeats 4000000 in
set_option maxRecDepth 100000 in
theorem SType_err (w0 w1 : World) (p pE n : Nat) (h : Sh) (ls : List ByteArray) (lv : Value) (s t : ByteArray) (hs : s.size = n + 1) (hn : n < 100) (hl : ∀ j : Nat, j < n → 32 ≤ bt s j ∧ bt s j < 127) (he : bt s n = 13) (ht : strOfNums ((bytesOf s).take n) = t) (hts : t.size ≤ 1000000)
    (k nn : Int) (b : ByteArray) (ss : Int) (vl : List (ByteArray × Int)) (tl : Pure.L8) (er : Int) (hp : Pure.parseN t.data.toList = (⟨k, nn, (b, ss), vl, tl⟩, er))
    (e0 : (er == 0) = false) (e7 : (er == 7) = false) (h0 : -9223372036854775808 ≤ er) (h1 : er ≤ 9223372036854775807) (hz : (msgB er).size ≤ 1000) (W : World) (hE : EnvW w0) (hln : ls.length < 64) (H : ShI w0 w1 p h ls lv W)
    (hhE : h.E = .pointer (some ⟨pE, 0, none⟩)) (hcv : h.conv = false) (hEd : W.heap[pE]? = some (.cells #[.slice none 0 0, .bool false, .int .i64 0] 127 (0, 0))) (hpE0 : w0.heap.size ≤ pE) (hpE1 : pE < w1.heap.size) :
    Calls Tryz.prog 28 #[.pointer (some ⟨p, 0, none⟩), .string s] W fun e W' => e = .returned (.slice none 0 0) ∧ (∃ v1, ShI w0 w1 p h (ls ++ [starB ++ msgB er]) v1 W') := by
  have hne : pE ≠ p := fun e => by
    subst e
    have := hEd.symm.trans H.a
    simp at this
  obtain ⟨k0, k1, k2, k3, k4, k5, k6, k7, k8⟩ := eight_cell H.a
  rw [hhE] at k0
  rw [hcv] at k1
  have HA := Aside0.mk ((Below.refl W.heap.size W).alloc (Nat.le_refl _) (.cells #[.string s] 9))
  have HT := Aside0.mk (EType_calls w0 pE W.heap.size n s _ hs hn hl he (below_then H.b H.b.size HA.out) hpE0 (blk_below hEd HA.out) (blk_cell (heap_alloc_new W (.cells #[.string s] 9 (0, 0))) 0))
  rw [ht] at HT
  have HH := Aside0.mk (H.below HA.out)
  have HE := Aside0.mk hE
  have hap := append_nils
  have HC := Aside0.mk (fun lv W hE H => command_err w0 w1 p h ls lv t hts k nn b ss vl tl er hp e0 e7 h0 h1 hz W hE hln H)
  clear hl he hp hE hEd H hz e0 e7 h0 h1 ht
  go_enter Tryz.func28, Tryz.ntmps28
  go_wp2_with (fail)
  refine HT.out.mono ?_
  rintro e w2 ⟨v, rfl, ⟨g, c, rfl, hg1, hg2, hg3, hg4⟩, hk2, hb2, ha2⟩
  have H2 := Aside0.mk (HH.out.kb hk2 hpE0 hne hpE1)
  have HE2 := Aside0.mk (HE.out.below H2.out.b)
  clear hk2 hb2 ha2 HT HH HE
  go_wp2_with (fail)
  go_loopw [5, 18] (fun v5 v18 wr => (v18 = .int .i64 0 ∧ wr = w2 ∧ v5 = .slice none 0 0) ∨ (v18 = .int .i64 1 ∧ v5 = .slice none 0 0 ∧ Aside0 (∃ v1, ShI w0 w1 p h (ls ++ [starB ++ msgB er]) v1 wr))) (fun _ v18 _ => 1 - (intOf v18).toNat)
  case atStart => exact Or.inl ⟨rfl, rfl, rfl⟩
  case round =>
    rcases hrel with ⟨rfl, rfl, rfl⟩ | ⟨rfl, rfl, HZ⟩
    · obtain ⟨q0, q1, q2, q3, q4, q5, q6, q7, q8⟩ := eight_cell H2.out.a
      rw [hcv] at q1
      have hpl := blk_lt H2.out.a
      have HD := Aside0.mk (HC.out lv _ (HE2.out.below ((Below.refl _ _).alloc (Nat.le_refl _) (.cells #[.string t, .bool false] 101))) (H2.out.below ((Below.refl _ _).alloc (Nat.le_refl _) (.cells #[.string t, .bool false] 101))))
      go_wp2_with (fail)
      refine HD.out.mono ?_
      rintro e w4 ⟨rfl, h4, -⟩
      have H4 := Aside0.mk h4
      clear h4 HD
      go_wp2_with (fail)
      go_roundw
      case rel => exact Or.inr ⟨rfl, rfl, H4⟩
      case measure => simp [intOf] <;> omega
    · go_wp2_with (fail)
      go_ret
      exact ⟨rfl, HZ.out⟩
end Go.Proofs.YtgaboenipiojoaaGreatDoor.QAll
end

section
/- shell.New. -/
set_option linter.unusedVariables false
set_option linter.unusedSimpArgs false
namespace Go.Proofs.YtgaboenipiojoaaGreatDoor.QAll
open Go.RowKit Go.Proofs.YtgaboenipiojoaaGreatDoorW.PrintWords Go.Proofs.YtgaboenipiojoaaGreatDoorW.PrintLast Go.Proofs.YtgaboenipiojoaaGreatDoorW.PrintMore
set_option maxHeartbeats 2000000 in
set_option maxRecDepth 100000 in
theorem line_New_calls (w : World) : Calls Tryz.prog 46 #[] w fun e w' => e = .returned (.pointer (some ⟨w.heap.size, 0, none⟩)) ∧ w' = w.alloc (.cells #[.slice none 0 0, .bool false, .int .i64 0] 127 (0, 0)) := by
  go_enter Tryz.func46, Tryz.ntmps46
  go_wp2
  go_ret
  exact ⟨rfl, rfl⟩
/-- A new shell. -/
structure NewS (w : World) (o : ByteArray) (sid : Int) (pE pS m : Nat) (W : World) : Prop where
  b : Below w.heap.size w W
  e : W.heap[pE]? = some (.cells #[.slice none 0 0, .bool false, .int .i64 0] 127 (0, 0))
  s : W.heap[pS]? = some (.cells #[.pointer (some ⟨pE, 0, none⟩), .string o, .int .i64 sid, .bool false, .int .i64 0, .map (some m), .slice none 0 0, .int .i64 0] 90 (0, 0))
  mp : W.heap[m]? = some (.map #[] 0)
  he : w.heap.size ≤ pE
  hs : w.heap.size ≤ pS
  hm : w.heap.size ≤ m
theorem new_at (w : World) (x : Obj) (n : Nat) (h : n = w.heap.size) : (w.alloc x).heap[n]? = some x := by subst h; exact heap_alloc_new w x
theorem NewS_a {w w2 : World} {o : ByteArray} {sid : Int} (hb : Below w.heap.size w w2) : NewS w o sid w2.heap.size (w2.heap.size + 2) (w2.heap.size + 1) (((w2.alloc (.cells #[.slice none 0 0, .bool false, .int .i64 0] 127 (0, 0))).alloc (.map #[] 0)).alloc (.cells #[.pointer (some ⟨w2.heap.size, 0, none⟩), .string o, .int .i64 sid, .bool false, .int .i64 0, .map (some (w2.heap.size + 1)), .slice none 0 0, .int .i64 0] 90 (0, 0))) := by
  have h2 := hb.size
  refine ⟨below_alloc (below_alloc (below_alloc hb _) _) _, blk_alloc (blk_alloc (new_at _ _ _ rfl) _) _, new_at _ _ _ (by simp), blk_alloc (new_at _ _ _ (by simp)) _, h2, by omega, by omega⟩
theorem NewS_b {w w2 : World} {o : ByteArray} {sid : Int} (hb : Below w.heap.size w w2) : NewS w o sid (w2.heap.size + 1) (w2.heap.size + 2) w2.heap.size (((w2.alloc (.map #[] 0)).alloc (.cells #[.slice none 0 0, .bool false, .int .i64 0] 127 (0, 0))).alloc (.cells #[.pointer (some ⟨w2.heap.size + 1, 0, none⟩), .string o, .int .i64 sid, .bool false, .int .i64 0, .map (some w2.heap.size), .slice none 0 0, .int .i64 0] 90 (0, 0))) := by
  have h2 := hb.size
  refine ⟨below_alloc (below_alloc (below_alloc hb _) _) _, blk_alloc (new_at _ _ _ (by simp)) _, new_at _ _ _ (by simp), blk_alloc (blk_alloc (new_at _ _ _ rfl) _) _, by omega, by omega, h2⟩
theorem NewS.drew {w W : World} {o : ByteArray} {sid : Int} {pE pS m : Nat} (h : NewS w o sid pE pS m W) : NewS w o sid pE pS m W.drew := ⟨below_drew h.b, h.e, h.s, h.mp, h.he, h.hs, h.hm⟩
set_option maxHeartbeats 4000000 in
set_option maxRecDepth 100000 in
theorem shell_New_ok (o : ByteArray) (sid : Int) (w : World) (h : call_Right.f o sid = some true) :
    Calls Tryz.prog 18 #[.agg #[.string o, .int .i64 sid]] w fun e w' => ∃ pE pS m, e = .returned (.tuple #[.pointer (some ⟨pS, 0, none⟩), .int .i64 0]) ∧ NewS w o sid pE pS m w' := by
  have H := Aside0.mk h
  clear h
  have hmm := @run_makeMap Tryz.prog
  have HB := Aside0.mk ((Below.refl w.heap.size w).alloc (Nat.le_refl _) (.cells #[.string o, .int .i64 sid] 29 (0, 0)))
  have HX := Aside0.mk (heap_alloc_new w (.cells #[.string o, .int .i64 sid] 29 (0, 0)))
  go_enter Tryz.func18, Tryz.ntmps18
  go_wp2_with (fail)
  (with_reducible refine (call_Right.calls o sid true _ H.out).mono ?_)
  rintro r w2 ⟨rfl, hb⟩
  have HX2 := Aside0.mk ((hb.block _ (blk_lt HX.out)).trans HX.out)
  have HB2 := Aside0.mk (below_then HB.out (by simp) hb)
  have HZ2 := Aside0.mk (blk_lt HX2.out)
  clear hb HX HB
  obtain ⟨k0, k1, k2, k3⟩ := two_cell HX2.out
  have hz := HZ2.out
  go_wp2_with (fail)
  go_region_with (first | (go_at_call 46; (with_reducible refine (line_New_calls _).mono ?_); rintro r w' ⟨rfl, rfl⟩))
  all_goals go_wp2_with (fail)
  all_goals (go_ret2; first | exact ⟨_, _, _, rfl, (NewS_a HB2.out).drew⟩ | exact ⟨_, _, _, rfl, (NewS_b HB2.out).drew⟩)
end Go.Proofs.YtgaboenipiojoaaGreatDoor.QAll
end

section
/- awake of law 26. -/
set_option linter.unusedVariables false
set_option linter.unusedSimpArgs false
namespace Go.Proofs.YtgaboenipiojoaaGreatDoor.QAll
open Go.RowKit Go.Proofs.YtgaboenipiojoaaGreatDoorW.PrintWords Go.Proofs.YtgaboenipiojoaaGreatDoorW.PrintLast Go.Proofs.YtgaboenipiojoaaGreatDoorW.PrintMore
def aw26K : ByteArray := ⟨#[99, 32, 98, 45, 49, 54, 13]⟩
def aw26T : ByteArray := ⟨#[99, 32, 98, 45, 49, 54]⟩
theorem aw26_parse : Pure.parseN aw26T.data.toList = (⟨0, 0, (⟨#[]⟩, 0), [], []⟩, 12) := by kernel_rfl
theorem aw26_take : strOfNums ((bytesOf aw26K).take 6) = aw26T := by kernel_rfl
theorem aw26_let : ((List.range 6).all fun j : Nat => decide (32 ≤ bt aw26K j ∧ bt aw26K j < 127)) = true := by kernel_rfl
theorem aw26_msg : starB ++ msgB 12 = (⟨#[42, 42, 42, 32, 66, 65, 68, 32, 67, 65, 76, 76]⟩ : ByteArray) := by kernel_rfl
theorem aw26_end : bt aw26K ((6 : Nat) : Int) = 13 := by kernel_rfl
theorem aw26_size : aw26T.size ≤ 1000000 := by decide
theorem aw26_msz : (msgB 12).size ≤ 1000 := Nat.le_of_ble_eq_true (by kernel_rfl)
theorem aw26_own : call_Right.f ⟨#[77, 69]⟩ 0 = some true := by kernel_rfl
theorem NewS.sh {w W : World} {o : ByteArray} {sid : Int} {pE pS m : Nat} (h : NewS w o sid pE pS m W) : ShI w W pS ⟨.pointer (some ⟨pE, 0, none⟩), o, sid, false, 0, .map (some m)⟩ [] (.slice none 0 0) W :=
  ⟨h.b, Nat.le_refl _, h.s, Kd.R_nil _ _ _ _ _, h.hs, blk_lt h.s⟩
set_option maxHeartbeats 4000000 in
set_option maxRecDepth 100000 in
theorem awake26_calls (w : World) (hE : EnvW w) : Calls Tryz.prog 17 #[] w fun e w' => e = .returned (.bool true) ∧ Below w.heap.size w w' := by
  have HE := Aside0.mk hE
  have HN := Aside0.mk (shell_New_ok ⟨#[77, 69]⟩ 0 w aw26_own)
  clear hE
  go_enter Tryz.func17, Tryz.ntmps17
  go_wp2_with (fail)
  refine HN.out.mono ?_
  rintro e w1 ⟨pE, pS, m, rfl, h1⟩
  have H1 := Aside0.mk h1
  have HT := Aside0.mk (SType_err w w1 pS pE 6 _ [] _ aw26K aw26T rfl (by omega) (fun j hj => of_decide_eq_true (List.all_eq_true.1 aw26_let j (List.mem_range.2 hj))) aw26_end aw26_take aw26_size _ _ _ _ _ _ _ aw26_parse rfl rfl (by omega) (by omega) aw26_msz w1 HE.out (by simp) h1.sh rfl rfl h1.e h1.he (blk_lt h1.e))
  clear h1 HN
  go_wp2_with (fail)
  refine HT.out.mono ?_
  rintro e w2 ⟨rfl, v1, h2⟩
  rw [aw26_msg] at h2
  have HL := Aside0.mk (Lines_calls w w1 pS _ _ _ w2 h2)
  clear h2 HT H1
  go_wp2_with (fail)
  refine HL.out.mono ?_
  rintro e w3 ⟨rfl, hr, h3, -⟩
  have H3 := Aside0.mk h3.b
  obtain ⟨A, c, rfl, hc, hC⟩ := Kd.R_reads hr
  obtain ⟨ad, hA, hx⟩ := Kd.at_string hC 0 (by omega) (by simp)
  subst hA
  have hx2 : w3.cell? ad = some (.string ⟨#[42, 42, 42, 32, 66, 65, 68, 32, 67, 65, 76, 76]⟩) := by simpa [Addr.add, rdOf] using hx
  clear hx hC hr h3 HL
  go_wp2_with (fail)
  go_ret
  exact ⟨rfl, H3.out⟩
end Go.Proofs.YtgaboenipiojoaaGreatDoor.QAll
end

section
/- A line of ASCII in great letters, its blanks made many, is the same command, but in its text. -/
set_option linter.unusedVariables false
set_option linter.unusedSimpArgs false
namespace Go.Proofs.YtgaboenipiojoaaGreatDoor.Pure
open Go Go.RowKit Go.Proofs.YtgaboenipiojoaaGreatDoor.QAll
def dv (v : Nat) (c : UInt8) : Nat := v * 10 + (c.toNat - 48)
theorem dec_rec (u : Nat) : Lib.decDigits u = if u < 10 then [UInt8.ofNat (48 + u)] else Lib.decDigits (u / 10) ++ [UInt8.ofNat (48 + u % 10)] := by
  rw [Lib.decDigits]
  split <;> rfl
theorem dig_nat (z : Nat) (h : z < 10) : (UInt8.ofNat (48 + z)).toNat = 48 + z := by
  have : (48 + z) % 256 = 48 + z := Nat.mod_eq_of_lt (by omega)
  simpa using this
theorem dec_all : ∀ (j u : Nat), u < 10 ^ (j + 1) → (∀ c ∈ Lib.decDigits u, 48 ≤ c.toNat ∧ c.toNat ≤ 57) ∧ (Lib.decDigits u).foldl dv 0 = u ∧ 1 ≤ (Lib.decDigits u).length ∧ (Lib.decDigits u).length ≤ j + 1 := by
  intro j
  induction j with
  | zero =>
    intro u hu
    have hu' : u < 10 := by simpa using hu
    rw [dec_rec, if_pos hu']
    refine ⟨fun c hc => ?_, ?_, by simp, by simp⟩
    · rw [List.mem_singleton] at hc
      rw [hc, dig_nat u hu']
      omega
    · rw [List.foldl_cons, List.foldl_nil, dv, dig_nat u hu']
      omega
  | succ j ih =>
    intro u hu
    by_cases hl : u < 10
    · rw [dec_rec, if_pos hl]
      refine ⟨fun c hc => ?_, ?_, by simp, by simp⟩
      · rw [List.mem_singleton] at hc
        rw [hc, dig_nat u hl]
        omega
      · rw [List.foldl_cons, List.foldl_nil, dv, dig_nat u hl]
        omega
    · have hp : u / 10 < 10 ^ (j + 1) := by
        rw [Nat.pow_succ] at hu
        omega
      obtain ⟨h1, h2, h3, h4⟩ := ih (u / 10) hp
      rw [dec_rec, if_neg hl]
      refine ⟨fun c hc => ?_, ?_, ?_, ?_⟩
      · rcases List.mem_append.1 hc with hc | hc
        · exact h1 c hc
        · rw [List.mem_singleton] at hc
          rw [hc, dig_nat _ (by omega)]
          omega
      · rw [List.foldl_append, h2, List.foldl_cons, List.foldl_nil, dv, dig_nat _ (by omega)]
        omega
      · rw [List.length_append]; omega
      · rw [List.length_append, List.length_singleton]; omega
end Go.Proofs.YtgaboenipiojoaaGreatDoor.Pure
end

section
/- call.Text of any call. -/
set_option linter.unusedVariables false
set_option linter.unusedSimpArgs false
namespace Go.Proofs.YtgaboenipiojoaaGreatDoor.QAll
open Go.RowKit Go.Proofs.YtgaboenipiojoaaGreatDoorW.PrintWords Go.Proofs.YtgaboenipiojoaaGreatDoorW.PrintLast Go.Proofs.YtgaboenipiojoaaGreatDoorW.PrintMore
def textB (b : ByteArray) (n : Int) : ByteArray := if rightB b n = true then (if n = 0 then b else b ++ (⟨#[45]⟩ : ByteArray) ++ (⟨(Lib.decDigits n.toNat).toArray⟩ : ByteArray)) else ⟨#[]⟩
set_option maxHeartbeats 4000000 in
set_option maxRecDepth 100000 in
theorem ctext_calls (b : ByteArray) (n : Int) (hb : b.size ≤ 9223372036854775807) (w : World) :
    Calls Tryz.prog 50 #[.agg #[.string b, .int .i64 n]] w fun e w' => e = .returned (.string (textB b n)) ∧ Below w.heap.size w w' := by
  have HR := Aside0.mk (call_Right.calls b n (rightB b n) (w.alloc (.cells #[.string b, .int .i64 n] 29)) (by unfold call_Right.f; rw [if_pos hb]))
  have HB := Aside0.mk ((Below.refl w.heap.size w).alloc (Nat.le_refl _) (.cells #[.string b, .int .i64 n] 29 (0, 0)))
  have HX := Aside0.mk (heap_alloc_new w (.cells #[.string b, .int .i64 n] 29 (0, 0)))
  cases hr : rightB b n with
  | false =>
    have HT := Aside0.mk (show textB b n = ⟨#[]⟩ by unfold textB; rw [hr]; rfl)
    rw [hr] at HR
    clear hr hb
    go_enter Tryz.func50, Tryz.ntmps50
    go_wp2_with (fail)
    refine HR.out.mono ?_
    rintro e w2 ⟨rfl, hb2⟩
    have HB2 := Aside0.mk (below_then HB.out (by simp) hb2)
    clear hb2 HB HR
    go_wp2_with (fail)
    go_ret
    exact ⟨by rw [HT.out]; rfl, HB2.out⟩
  | true =>
    have hr' := hr
    unfold rightB at hr'
    simp only [Bool.and_eq_true, decide_eq_true_eq] at hr'
    obtain ⟨-, -, hs6, hn0, hn15⟩ := hr'
    obtain ⟨k, rfl⟩ := Int.eq_ofNat_of_zero_le hn0
    rw [hr] at HR
    by_cases hk : k = 0
    · subst hk
      have HT := Aside0.mk (show textB b ((0 : Nat) : Int) = b by unfold textB; rw [hr]; rfl)
      clear hr hb
      go_enter Tryz.func50, Tryz.ntmps50
      go_wp2_with (fail)
      refine HR.out.mono ?_
      rintro e w2 ⟨rfl, hb2⟩
      obtain ⟨k0, k1, -, -⟩ := two_cell ((hb2.block _ (blk_lt HX.out)).trans HX.out)
      have HB2 := Aside0.mk (below_then HB.out (by simp) hb2)
      clear hb2 HB HR
      go_wp2_with (fail)
      go_ret
      exact ⟨by rw [HT.out]; rfl, HB2.out⟩
    · have HT := Aside0.mk (show textB b (k : Int) = b ++ (⟨#[45]⟩ : ByteArray) ++ (⟨(Lib.decDigits k).toArray⟩ : ByteArray) by unfold textB; rw [hr, if_pos rfl, if_neg (by omega), Int.toNat_natCast])
      have e0 : ((k : Int) == 0) = false := by simp; omega
      have hd : (⟨(Lib.decDigits k).toArray⟩ : ByteArray).size ≤ 4 := by
        have h := Pure.dec_all 1 k (by omega)
        show (Lib.decDigits k).toArray.size ≤ 4
        rw [List.size_toArray]
        omega
      have hd1 : (b ++ (⟨#[45]⟩ : ByteArray)).size ≤ 7 := by rw [ByteArray.size_append]; show b.size + 1 ≤ 7; omega
      have HI := Aside0.mk (fun W => Tryz.strconv_Itoa_small k (by omega) W)
      generalize (⟨(Lib.decDigits k).toArray⟩ : ByteArray) = dB at HT hd HI
      clear hr hb
      go_enter Tryz.func50, Tryz.ntmps50
      go_wp2_with (fail)
      refine HR.out.mono ?_
      rintro e w2 ⟨rfl, hb2⟩
      obtain ⟨k0, k1, -, -⟩ := two_cell ((hb2.block _ (blk_lt HX.out)).trans HX.out)
      have HB2 := Aside0.mk (below_then HB.out (by simp) hb2)
      clear hb2 HB HR
      have hz1 : b.size + (⟨#[45]⟩ : ByteArray).size ≤ 9223372036854775807 := by show b.size + 1 ≤ _; omega
      have hz2 : (b ++ (⟨#[45]⟩ : ByteArray)).size + dB.size ≤ 9223372036854775807 := by omega
      have hz3 : b.size + 1 ≤ 9223372036854775807 := by omega
      have hz4 : b.size + 1 + dB.size ≤ 9223372036854775807 := by omega
      go_wp2_with (fail)
      go_region_with ((go_at_call 52; (with_reducible refine (HI.out _).mono ?_); rintro r w' ⟨rfl, rfl⟩))
      all_goals go_wp2_with (fail)
      all_goals (go_ret; exact ⟨by rw [HT.out]; rfl, by repeat (first | (with_reducible first | exact HB2.out | apply below_alloc | apply pw_below_drewN | apply below_drew1) | exact HB2.out)⟩)
end Go.Proofs.YtgaboenipiojoaaGreatDoor.QAll
end

section
/- shell.event: a link is up; data. -/
set_option linter.unusedVariables false
set_option linter.unusedSimpArgs false
namespace Go.Proofs.YtgaboenipiojoaaGreatDoor.QAll
open Go.RowKit Go.Proofs.YtgaboenipiojoaaGreatDoorW.PrintWords Go.Proofs.YtgaboenipiojoaaGreatDoorW.PrintLast Go.Proofs.YtgaboenipiojoaaGreatDoorW.PrintMore
/-- The row that v1 is: lv's, or a new one. -/
def RowAt (lv v1 : Value) (N : Nat) : Prop := v1.ownBlock = lv.ownBlock ∨ ∃ b, v1.ownBlock = some b ∧ N ≤ b
theorem RowAt.le {lv v1 : Value} {N M : Nat} (h : RowAt lv v1 N) (hm : M ≤ N) : RowAt lv v1 M := by
  rcases h with h | ⟨g, h1, h2⟩
  · exact Or.inl h
  · exact Or.inr ⟨g, h1, Nat.le_trans hm h2⟩
/-- What a data event's line is. -/
def dataB (cur id : Int) (t : ByteArray) : ByteArray := if id = cur then t else (⟨#[91]⟩ : ByteArray) ++ (⟨(Lib.decDigits id.toNat).toArray⟩ : ByteArray) ++ (⟨#[93, 32]⟩ : ByteArray) ++ t
set_option maxHeartbeats 8000000 in
set_option maxRecDepth 100000 in
theorem event_data (w0 w1 : World) (p : Nat) (h : Sh) (ls : List ByteArray) (lv : Value) (id : Nat) (b : ByteArray) (n : Int) (t : ByteArray) (W : World) (hid : 1 ≤ id ∧ id ≤ 9) (hb : b.size ≤ 9223372036854775807) (ht : t.size ≤ 1000) (hn : ls.length < 1000) (H : ShI w0 w1 p h ls lv W) :
    Calls Tryz.prog 47 #[.pointer (some ⟨p, 0, none⟩), .agg #[.int .i64 6, .int .i64 id, .string b, .int .i64 n, .string t]] W fun e W' => e = .returned (.tuple #[]) ∧ (∃ v1, ShI w0 w1 p h (ls ++ [dataB h.cur id t]) v1 W' ∧ RowAt lv v1 W.heap.size) ∧ KeepBut W W' p lv.ownBlock := by
  have HA := Aside0.mk ((Below.refl W.heap.size W).alloc (Nat.le_refl _) (.cells #[.int .i64 6, .int .i64 id, .string b, .int .i64 n, .string t] 49 (0, 0)))
  have HX := Aside0.mk (heap_alloc_new W (.cells #[.int .i64 6, .int .i64 id, .string b, .int .i64 n, .string t] 49 (0, 0)))
  have HT := Aside0.mk (ctext_calls b n hb (W.alloc (.cells #[.int .i64 6, .int .i64 id, .string b, .int .i64 n, .string t] 49)))
  have HH := Aside0.mk H
  clear H hb
  go_enter Tryz.func47, Tryz.ntmps47
  go_wp2_with (fail)
  refine HT.out.mono ?_
  rintro e w2 ⟨rfl, hb2⟩
  have HX2 := Aside0.mk ((hb2.block _ (blk_lt HX.out)).trans HX.out)
  have HB2 := Aside0.mk (below_then HA.out (by simp) hb2)
  have H2 := Aside0.mk (HH.out.below HB2.out)
  have hpe := fun e : p = W.heap.size => by have := blk_lt HH.out.a; omega
  clear hb2 HA HX HT HH
  have hz := blk_lt HX2.out
  have k0 := blk_cell HX2.out 0
  have k1 := blk_cell HX2.out 1
  have k4 := blk_cell HX2.out 4
  obtain ⟨q0, q1, q2, q3, q4, q5, q6, q7, q8⟩ := eight_cell H2.out.a
  have hpl := blk_lt H2.out.a
  obtain ⟨A, c', hv⟩ := Kd.R_slice H2.out.r
  subst hv
  by_cases hc : (id : Int) = h.cur
  · have HD := Aside0.mk (show dataB h.cur id t = t by unfold dataB; rw [if_pos hc])
    have hcb : ((id : Int) == h.cur) = true := by simpa using hc
    have hcn : ((id : Int) != h.cur) = false := by simpa using hc
    clear hc
    go_wp2_with (fail)
    go_region_with (fail)
    all_goals
      have H3 := Aside0.mk (H2.out.below (below_drew (Below.refl _ _)))
      have HB3 := Aside0.mk (below_drew HB2.out)
      have HX3 := Aside0.mk (blk_drew HX2.out)
      clear q0 q1 q2 q3 q4 q5 q6 q7 q8 hpl k0 k1 k4 hz H2 HB2 HX2
      generalize w2.drew = w3 at H3 HB3 HX3 ⊢
      have H2 := H3
      have HB2 := HB3
      clear H3 HB3
      have hz := blk_lt HX3.out
      have k0 := blk_cell HX3.out 0
      have k1 := blk_cell HX3.out 1
      have k4 := blk_cell HX3.out 4
      obtain ⟨q0, q1, q2, q3, q4, q5, q6, q7, q8⟩ := eight_cell H2.out.a
      have hpl := blk_lt H2.out.a
      go_wp2_with ((at_builtin; refine Kd.R_append Kd.string (w0 := w0) w0.heap.size rfl (.tmp 109) (.tmp 111) 24 9 (.string ⟨#[]⟩) 16 rfl Tryz.underlying24 einfo9 rfl (by decide) (by omega) _ ls t [.string t] (fun k => w1.heap.size ≤ k) (fun _ => False) rfl rfl rfl (fun _ hk => hk.elim) (fun k hk => Nat.le_trans H2.out.k hk) H2.out.r H2.out.b H2.out.b.size (by omega) ?_; intro v1 wd ho hbd hgd hat; obtain ⟨A1, c1, hv1⟩ := Kd.R_slice ho; subst hv1; have HAt := Aside0.mk (show RowAt (.slice A ls.length c') (.slice A1 _ c1) _ from hat); have HY := Aside0.mk (H2.out.put ho hbd hgd); obtain ⟨j0, j1, j2, j3, j4, j5, j6, j7, j8⟩ := eight_cell ((hgd.block p (blk_lt H2.out.a) (fun e => by have := H2.out.r.1 _ e.symm; have := H2.out.hq; omega)).trans H2.out.a); clear ho hbd hgd hat))
      have HK := Aside0.mk ((KeepBut.of_below HB2.out p _).trans HY.out.2 (Or.inl rfl))
      have HS := Aside0.mk HY.out.1
      clear HY
      rw [List.length_append, List.length_singleton] at HK HS HAt
      go_end0
      rw [HD.out]
      exact ⟨rfl, ⟨_, HS.out, RowAt.le HAt.out HB2.out.size⟩, HK.out⟩
  · have HD := Aside0.mk (show dataB h.cur id t = (⟨#[91]⟩ : ByteArray) ++ (⟨(Lib.decDigits id).toArray⟩ : ByteArray) ++ (⟨#[93, 32]⟩ : ByteArray) ++ t by unfold dataB; rw [if_neg hc, Int.toNat_natCast])
    have hcb : ((id : Int) == h.cur) = false := by simpa using hc
    have hcn : ((id : Int) != h.cur) = true := by simpa using hc
    clear hc
    have hdz : (⟨(Lib.decDigits id).toArray⟩ : ByteArray).size ≤ 4 := by
      have h := Pure.dec_all 1 id (by omega)
      show (Lib.decDigits id).toArray.size ≤ 4
      rw [List.size_toArray]
      omega
    have HI := Aside0.mk (fun W => Tryz.strconv_Itoa_small id (by omega) W)
    generalize (⟨(Lib.decDigits id).toArray⟩ : ByteArray) = dB at HD hdz HI
    obtain ⟨xB, hxB⟩ : ∃ xB, (⟨#[91]⟩ : ByteArray) ++ dB ++ (⟨#[93, 32]⟩ : ByteArray) ++ t = xB := ⟨_, rfl⟩
    rw [hxB] at HD
    have hz1 : ((⟨#[91]⟩ : ByteArray) ++ dB).size ≤ 5 := by rw [ByteArray.size_append]; show 1 + dB.size ≤ 5; omega
    have hz2 : ((⟨#[91]⟩ : ByteArray) ++ dB ++ (⟨#[93, 32]⟩ : ByteArray)).size ≤ 7 := by rw [ByteArray.size_append]; show _ + 2 ≤ 7; omega
    go_wp2_with (fail)
    go_region_with (fail)
    all_goals
      have H3 := Aside0.mk (H2.out.below (below_drew (Below.refl _ _)))
      have HB3 := Aside0.mk (below_drew HB2.out)
      have HX3 := Aside0.mk (blk_drew HX2.out)
      clear q0 q1 q2 q3 q4 q5 q6 q7 q8 hpl k0 k1 k4 hz H2 HB2 HX2
      generalize w2.drew = w3 at H3 HB3 HX3 ⊢
      have H2 := H3
      have HB2 := HB3
      clear H3 HB3
      have hz := blk_lt HX3.out
      have k0 := blk_cell HX3.out 0
      have k1 := blk_cell HX3.out 1
      have k4 := blk_cell HX3.out 4
      obtain ⟨q0, q1, q2, q3, q4, q5, q6, q7, q8⟩ := eight_cell H2.out.a
      have hpl := blk_lt H2.out.a
      go_wp2_with (first | (go_at_call 52; (with_reducible refine (HI.out _).mono ?_); rintro r w' ⟨rfl, rfl⟩) | (at_builtin; refine Kd.R_append Kd.string (w0 := w0) w0.heap.size rfl (.tmp 109) (.tmp 111) 24 9 (.string ⟨#[]⟩) 16 rfl Tryz.underlying24 einfo9 rfl (by decide) (by omega) _ ls xB [.string xB] (fun k => w1.heap.size ≤ k) (fun _ => False) rfl rfl rfl (fun _ hk => hk.elim) (fun k hk => Nat.le_trans H2.out.k hk) H2.out.r H2.out.b H2.out.b.size (by omega) ?_; intro v1 wd ho hbd hgd hat; obtain ⟨A1, c1, hv1⟩ := Kd.R_slice ho; subst hv1; have HAt := Aside0.mk (show RowAt (.slice A ls.length c') (.slice A1 _ c1) _ from hat); have HY := Aside0.mk (H2.out.put ho hbd hgd); obtain ⟨j0, j1, j2, j3, j4, j5, j6, j7, j8⟩ := eight_cell ((hgd.block p (blk_lt H2.out.a) (fun e => by have := H2.out.r.1 _ e.symm; have := H2.out.hq; omega)).trans H2.out.a); clear ho hbd hgd hat))
      have HK := Aside0.mk ((KeepBut.of_below HB2.out p _).trans HY.out.2 (Or.inl rfl))
      have HS := Aside0.mk HY.out.1
      clear HY
      rw [List.length_append, List.length_singleton] at HK HS HAt
      go_end0
      rw [HD.out]
      exact ⟨rfl, ⟨_, HS.out, RowAt.le HAt.out HB2.out.size⟩, HK.out⟩
end Go.Proofs.YtgaboenipiojoaaGreatDoor.QAll
end

section
/- shell.event: a link is up. -/
set_option linter.unusedVariables false
set_option linter.unusedSimpArgs false
namespace Go.Proofs.YtgaboenipiojoaaGreatDoor.QAll
open Go.RowKit Go.Proofs.YtgaboenipiojoaaGreatDoorW.PrintWords Go.Proofs.YtgaboenipiojoaaGreatDoorW.PrintLast Go.Proofs.YtgaboenipiojoaaGreatDoorW.PrintMore
theorem mset_kb (W : World) (m : Nat) (o : Obj) : KB m W (mset W m o) := ⟨rfl, rfl, rfl, by simp [mset], fun k hk hm => by simp [mset, Array.getElem?_setIfInBounds, Ne.symm hm]⟩
theorem upX : textB ⟨#[88]⟩ 0 = ⟨#[88]⟩ := by kernel_rfl
def upB : ByteArray := ⟨#[42, 42, 42, 32, 67, 79, 78, 78, 69, 67, 84, 69, 68, 32, 84, 79, 32, 88]⟩
theorem up_cat : (⟨#[42, 42, 42, 32, 67, 79, 78, 78, 69, 67, 84, 69, 68, 32, 84, 79, 32]⟩ : ByteArray) ++ (⟨#[88]⟩ : ByteArray) = upB := by kernel_rfl
theorem ShI.up {w0 w1 W : World} {p : Nat} {h : Sh} {ls : List ByteArray} {lv : Value} (H : ShI w0 w1 p h ls lv W) (id : Int) : ShI w0 w1 p { h with cur := id, conv := true } ls lv ((W.setCell ⟨p, 4, none⟩ (.int .i64 id)).setCell ⟨p, 3, none⟩ (.bool true)) :=
  ⟨(H.b.setCell H.hp _).setCell H.hp _, by rw [World.size_setCell, World.size_setCell]; exact H.k, blk_set (blk_set H.a 4 _) 3 _, Kd.R_far (Kd.R_far H.r (fun k hk => by have := hk; have := H.hq; show k ≠ p; omega) _) (fun k hk => by have := hk; have := H.hq; show k ≠ p; omega) _, H.hp, H.hq⟩
set_option maxHeartbeats 8000000 in
set_option maxRecDepth 100000 in
theorem event_up (w0 w1 : World) (p m : Nat) (h : Sh) (ls : List ByteArray) (lv : Value) (id : Int) (W : World) (hm : h.m = .map (some m)) (hc : h.cur = 0) (hmW : W.heap[m]? = some (.map #[] 0)) (hm0 : w0.heap.size ≤ m) (hm1 : m < w1.heap.size) (hn : ls.length < 64) (H : ShI w0 w1 p h ls lv W) :
    Calls Tryz.prog 47 #[.pointer (some ⟨p, 0, none⟩), .agg #[.int .i64 1, .int .i64 id, .string ⟨#[88]⟩, .int .i64 0, .string ⟨#[]⟩]] W fun e W' => e = .returned (.tuple #[]) ∧ (∃ v1, ShI w0 w1 p { h with cur := id, conv := true } (ls ++ [upB]) v1 W') := by
  have hmp : m ≠ p := fun e => by
    subst e
    have := hmW.symm.trans H.a
    simp at this
  have hmne : ¬ m = W.heap.size := fun e => by have := blk_lt hmW; omega
  have HA := Aside0.mk ((Below.refl W.heap.size W).alloc (Nat.le_refl _) (.cells #[.int .i64 1, .int .i64 id, .string ⟨#[88]⟩, .int .i64 0, .string ⟨#[]⟩] 49 (0, 0)))
  have HX := Aside0.mk (heap_alloc_new W (.cells #[.int .i64 1, .int .i64 id, .string ⟨#[88]⟩, .int .i64 0, .string ⟨#[]⟩] 49 (0, 0)))
  have HT := Aside0.mk (ctext_calls ⟨#[88]⟩ 0 (by decide) (W.alloc (.cells #[.int .i64 1, .int .i64 id, .string ⟨#[88]⟩, .int .i64 0, .string ⟨#[]⟩] 49)))
  rw [upX] at HT
  have HH := Aside0.mk H
  have HM := Aside0.mk hmW
  clear H hmW
  go_enter Tryz.func47, Tryz.ntmps47
  go_wp2_with (fail)
  refine HT.out.mono ?_
  rintro e w2 ⟨rfl, hb2⟩
  have HX2 := Aside0.mk ((hb2.block _ (blk_lt HX.out)).trans HX.out)
  have HB2 := Aside0.mk (below_then HA.out (by simp) hb2)
  have H2 := Aside0.mk (HH.out.below HB2.out)
  have HM2 := Aside0.mk (blk_below HM.out HB2.out)
  clear hb2 HA HX HT HH HM
  have hz := blk_lt HX2.out
  have k0 := blk_cell HX2.out 0
  have k1 := blk_cell HX2.out 1
  have k2 := blk_cell HX2.out 2
  have k3 := blk_cell HX2.out 3
  obtain ⟨q0, q1, q2, q3, q4, q5, q6, q7, q8⟩ := eight_cell H2.out.a
  rw [hm] at q5
  have hpl := blk_lt H2.out.a
  have hmu := map_put w2.drew 88 29 m 0 #[] id (.agg #[.string ⟨#[88]⟩, .int .i64 0]) Tryz.underlying88 (blk_drew HM2.out) rfl
  have HK := Aside0.mk (mset_kb w2.drew m (.map (#[].push { key := .int .i64 id, val := .agg #[.string ⟨#[88]⟩, .int .i64 0], born := 0 }) (0 + 1)))
  obtain ⟨w3, hw3⟩ : ∃ w3, mset w2.drew m (.map (#[].push { key := .int .i64 id, val := .agg #[.string ⟨#[88]⟩, .int .i64 0], born := 0 }) (0 + 1)) = w3 := ⟨_, rfl⟩
  rw [hw3] at hmu HK
  go_wp2_with (fail)
  go_region_with (fail)
  all_goals
    have H3 := Aside0.mk ((H2.out.below (below_drew (Below.refl _ _))).kb HK.out hm0 hmp hm1)
    have HX3 := Aside0.mk ((HK.out.block W.heap.size hz (fun e => hmne e.symm)).trans (blk_drew HX2.out))
    clear q0 q1 q2 q3 q4 q5 q6 q7 q8 hpl k0 k1 k2 k3 hz H2 HX2 HK hmu hw3 HM2
    have hz := blk_lt HX3.out
    have k0 := blk_cell HX3.out 0
    have k1 := blk_cell HX3.out 1
    obtain ⟨q0, q1, q2, q3, q4, q5, q6, q7, q8⟩ := eight_cell H3.out.a
    have hpl := blk_lt H3.out.a
    go_wp2_with (fail)
    have hA3 := below_alloc (Below.refl w3.heap.size w3) (.cells #[.string ((⟨#[42, 42, 42, 32, 67, 79, 78, 78, 69, 67, 84, 69, 68, 32, 84, 79, 32]⟩ : ByteArray) ++ ⟨#[88]⟩)] 9)
    have HN := Aside0.mk (say_calls w0 w1 p w3.heap.size h ls lv ((⟨#[42, 42, 42, 32, 67, 79, 78, 78, 69, 67, 84, 69, 68, 32, 84, 79, 32]⟩ : ByteArray) ++ ⟨#[88]⟩) _ hn (H3.out.below hA3) (blk_cell (heap_alloc_new w3 (.cells #[.string ((⟨#[42, 42, 42, 32, 67, 79, 78, 78, 69, 67, 84, 69, 68, 32, 84, 79, 32]⟩ : ByteArray) ++ ⟨#[88]⟩)] 9 (0, 0))) 0))
    have HX4 := Aside0.mk (blk_below HX3.out hA3)
    have hne : some W.heap.size ≠ lv.ownBlock := Kd.R_ne H3.out.r HX3.out (by decide)
    have hpW : W.heap.size ≠ p := fun e => by have := blk_ne HX3.out H3.out.a (by decide); exact this e
    clear q0 q1 q2 q3 q4 q5 q6 q7 q8 hpl k0 k1 hz hA3
    refine HN.out.mono ?_
    rintro e w4 ⟨rfl, ⟨v1, h4⟩, hk4⟩
    rw [up_cat] at h4
    have H4 := Aside0.mk h4
    have HX5 := Aside0.mk (hk4.blk HX4.out hpW hne)
    clear h4 hk4 HN HX4 HX3 H3
    have k0 := blk_cell HX5.out 0
    have k1 := blk_cell HX5.out 1
    have hz := blk_lt HX5.out
    obtain ⟨q0, q1, q2, q3, q4, q5, q6, q7, q8⟩ := eight_cell H4.out.a
    have hpl := blk_lt H4.out.a
    rw [hc] at q3
    have HU := Aside0.mk (H4.out.up id)
    go_wp2_with (fail)
    go_end0
    exact ⟨rfl, _, HU.out⟩
end Go.Proofs.YtgaboenipiojoaaGreatDoor.QAll
end

section
/- shell.Event of one event; Same of two rows of texts. -/
set_option linter.unusedVariables false
set_option linter.unusedSimpArgs false
namespace Go.Proofs.YtgaboenipiojoaaGreatDoor.QAll
open Go.RowKit Go.Proofs.YtgaboenipiojoaaGreatDoorW.PrintWords Go.Proofs.YtgaboenipiojoaaGreatDoorW.PrintLast Go.Proofs.YtgaboenipiojoaaGreatDoorW.PrintMore
set_option maxHeartbeats 4000000 in
set_option maxRecDepth 100000 in
theorem Event_one (p q : Nat) (k id : Int) (b : ByteArray) (n : Int) (t : ByteArray) (W : World) (Q : World → Prop) (hq : W.heap[q]? = some (.cells #[.int .i64 k, .int .i64 id, .string b, .int .i64 n, .string t] 49 (0, 0)))
    (h : Calls Tryz.prog 47 #[.pointer (some ⟨p, 0, none⟩), .agg #[.int .i64 k, .int .i64 id, .string b, .int .i64 n, .string t]] (W.alloc (.cells #[.int .i64 k, .int .i64 id, .string b, .int .i64 n, .string t] 49)) fun e w' => e = .returned (.tuple #[]) ∧ Q w') :
    Calls Tryz.prog 19 #[.pointer (some ⟨p, 0, none⟩), .slice (some ⟨q, 0, none⟩) 1 1] W fun x w' => x = .returned (.tuple #[]) ∧ Q w' := by
  have k0 := blk_cell hq 0
  have k1 := blk_cell hq 1
  have k2 := blk_cell hq 2
  have k3 := blk_cell hq 3
  have k4 := blk_cell hq 4
  have H := Aside0.mk h
  clear hq h
  go_enter Tryz.func19, Tryz.ntmps19
  go_wp2_with (fail)
  go_loopw [5, 8] (fun _ v8 wr => (v8 = .int .i64 0 ∧ wr = W) ∨ (v8 = .int .i64 1 ∧ Aside0 (Q wr))) (fun _ v8 _ => 1 - (intOf v8).toNat)
  case atStart => exact Or.inl ⟨rfl, rfl⟩
  case round =>
    rcases hrel with ⟨rfl, rfl⟩ | ⟨rfl, HZ⟩
    · go_wp2_with (fail)
      refine H.out.mono ?_
      rintro e w4 ⟨rfl, h4⟩
      have H4 := Aside0.mk h4
      clear h4 H
      go_wp2_with (fail)
      go_roundw
      case rel => exact Or.inr ⟨rfl, H4⟩
      case measure => simp [intOf] <;> omega
    · go_wp2_with (fail)
      go_end0
      exact ⟨rfl, HZ.out⟩
set_option maxHeartbeats 4000000 in
set_option maxRecDepth 100000 in
theorem Same_eq (A B : Option Addr) (ca cb : Nat) (xs : List ByteArray) (W : World) (ha : Kd.string.C W A xs.length xs) (hb : Kd.string.C W B xs.length xs) :
    Calls Tryz.prog 21 #[.slice A xs.length ca, .slice B xs.length cb] W fun x w' => x = .returned (.bool true) ∧ Below W.heap.size W w' := by
  have HA := Aside0.mk ha
  have HB := Aside0.mk hb
  have hmx := Kd.C_max ha
  have hnn : (((xs.length : Int)) != (xs.length : Int)) = false := by simp
  have H0 := Aside0.mk (Below.refl W.heap.size W)
  clear ha hb
  go_enter Tryz.func21, Tryz.ntmps21
  go_wp2_with (fail)
  go_loopw [5] (fun v5 wr => ∃ j : Nat, j ≤ xs.length ∧ v5 = .int .i64 j ∧ Aside0 (Below W.heap.size W wr)) (fun v5 _ => xs.length - (intOf v5).toNat)
  case atStart => exact ⟨0, by omega, rfl, H0⟩
  case round =>
    obtain ⟨j, hj, rfl, HBr⟩ := hrel
    by_cases hlt : j < xs.length
    · obtain ⟨ad, hA, hx⟩ := Kd.at_string (Kd.C_below HA.out HBr.out) (j : Int) (by omega) (by omega)
      obtain ⟨bd, hB, hy⟩ := Kd.at_string (Kd.C_below HB.out HBr.out) (j : Int) (by omega) (by omega)
      subst hA hB
      rw [Int.toNat_natCast] at hx hy
      have hlt' : (j : Int) < (xs.length : Int) := by omega
      generalize rdOf ByteArray.empty xs (j : Int) = x at hx hy
      have hxx : (x.toList == x.toList) = true := beq_self_eq_true _
      have HD := Aside0.mk (below_drew HBr.out)
      go_wp2_with (fail)
      go_region_with (fail)
      all_goals
        go_wp2_with (fail)
        go_roundw
        case rel => exact ⟨j + 1, by omega, by go_num, HD⟩
        case measure => simp [intOf] <;> omega
    · obtain rfl : j = xs.length := by omega
      go_wp2_with (fail)
      go_ret
      exact ⟨rfl, HBr.out⟩
end Go.Proofs.YtgaboenipiojoaaGreatDoor.QAll
end

section
/- An Event that came in; Event of one Up and of one Data; rows that stay apart. -/
set_option linter.unusedVariables false
set_option linter.unusedSimpArgs false
namespace Go.Proofs.YtgaboenipiojoaaGreatDoor.QAll
open Go.RowKit Go.Proofs.YtgaboenipiojoaaGreatDoorW.PrintWords Go.Proofs.YtgaboenipiojoaaGreatDoorW.PrintLast Go.Proofs.YtgaboenipiojoaaGreatDoorW.PrintMore
structure S49 where
  f0 : Int
  f1 : Int
  f2 : ByteArray
  f3 : Int
  f4 : ByteArray
def z49 : S49 := ⟨0, 0, ⟨#[]⟩, 0, ⟨#[]⟩⟩
def k49 : Kd S49 := Kd.iso (Kd.pair (Kd.int .i64) (Kd.pair (Kd.int .i64) (Kd.pair Kd.string (Kd.pair (Kd.int .i64) Kd.string)))) (fun x : S49 => (x.f0, x.f1, x.f2, x.f3, x.f4))
theorem k49_open {w : World} {x : S49} {cs : List Value} (h : k49.K w x cs) : cs = [.int .i64 x.f0, .int .i64 x.f1, .string x.f2, .int .i64 x.f3, .string x.f4] := by
  obtain ⟨_, _, rfl, rfl, _, _, rfl, rfl, _, _, rfl, rfl, _, _, rfl, rfl, rfl⟩ := h
  exact rfl
theorem k49_mk (w : World) (x : S49)  : k49.K w x [.int .i64 x.f0, .int .i64 x.f1, .string x.f2, .int .i64 x.f3, .string x.f4] := ⟨[.int .i64 x.f0], _, rfl, rfl, [.int .i64 x.f1], _, rfl, rfl, [.string x.f2], _, rfl, rfl, [.int .i64 x.f3], [.string x.f4], rfl, rfl, rfl⟩
theorem at_T49 {w : World} {A : Option Addr} {n : Nat} {xs : List S49} (h : Kd.C k49 w A n xs) (i : Nat) (h1 : i < n) : ∃ ad , A = some ad ∧ w.cell? (ad.add (i * 5)) = some (.int .i64 (xs.getD i z49).f0) ∧ w.cell? ⟨(ad.add (i * 5)).block, (ad.add (i * 5)).off + 1, none⟩ = some (.int .i64 (xs.getD i z49).f1)
    ∧ w.cell? ⟨(ad.add (i * 5)).block, (ad.add (i * 5)).off + 2, none⟩ = some (.string (xs.getD i z49).f2) ∧ w.cell? ⟨(ad.add (i * 5)).block, (ad.add (i * 5)).off + 3, none⟩ = some (.int .i64 (xs.getD i z49).f3) ∧ w.cell? ⟨(ad.add (i * 5)).block, (ad.add (i * 5)).off + 4, none⟩ = some (.string (xs.getD i z49).f4) := by
  obtain ⟨ad, c, e, _, hK, hc0⟩ := Kd.C_get h z49 (i : Int) (by omega) (by omega)
  rw [Int.toNat_natCast] at hK hc0
  have hc : ∀ j u, c[j]? = some u → w.cell? (ad.add (i * 5 + j)) = some u := hc0
  obtain rfl := k49_open hK
  exact ⟨ad, e, hc 0 _ rfl, by rw [← add_field _ _ 1 (by omega)]; exact hc 1 _ rfl, by rw [← add_field _ _ 2 (by omega)]; exact hc 2 _ rfl, by rw [← add_field _ _ 3 (by omega)]; exact hc 3 _ rfl, by rw [← add_field _ _ 4 (by omega)]; exact hc 4 _ rfl⟩
theorem ShI.grown {w0 w1 W W' : World} {p : Nat} {h : Sh} {ls : List ByteArray} {lv : Value} {row : Option Nat} (H : ShI w0 w1 p h ls lv W) (hb : Below w0.heap.size w0 W') (hg : W.grownBy W' row) (hp : some p ≠ row) (hl : lv.ownBlock = none ∨ lv.ownBlock ≠ row) : ShI w0 w1 p h ls lv W' :=
  ⟨hb, Nat.le_trans H.k hg.size, blk_grown H.a hg hp, Kd.R_of_own (own_other (Kd.own_of_R H.r) hg hl) H.r.1, H.hp, H.hq⟩
theorem event_up1 (w0 w1 : World) (p m q : Nat) (h : Sh) (ls : List ByteArray) (lv : Value) (id : Int) (W : World) (hq : W.heap[q]? = some (.cells #[.int .i64 1, .int .i64 id, .string ⟨#[88]⟩, .int .i64 0, .string ⟨#[]⟩] 49 (0, 0))) (hm : h.m = .map (some m)) (hc : h.cur = 0) (hmW : W.heap[m]? = some (.map #[] 0)) (hm0 : w0.heap.size ≤ m) (hm1 : m < w1.heap.size) (hn : ls.length < 64) (H : ShI w0 w1 p h ls lv W) :
    Calls Tryz.prog 19 #[.pointer (some ⟨p, 0, none⟩), .slice (some ⟨q, 0, none⟩) 1 1] W fun e W' => e = .returned (.tuple #[]) ∧ ∃ v1, ShI w0 w1 p { h with cur := id, conv := true } (ls ++ [upB]) v1 W' :=
  Event_one p q 1 id ⟨#[88]⟩ 0 ⟨#[]⟩ W _ hq (event_up w0 w1 p m h ls lv id _ hm hc (blk_alloc hmW _) hm0 hm1 hn (H.below (below_alloc (Below.refl _ _) _)))
theorem event_data1 (w0 w1 : World) (p q : Nat) (h : Sh) (ls : List ByteArray) (lv : Value) (id : Nat) (b : ByteArray) (n : Int) (t : ByteArray) (W : World) (hq : W.heap[q]? = some (.cells #[.int .i64 6, .int .i64 id, .string b, .int .i64 n, .string t] 49 (0, 0))) (hid : 1 ≤ id ∧ id ≤ 9) (hb : b.size ≤ 9223372036854775807) (ht : t.size ≤ 1000) (hn : ls.length < 1000) (H : ShI w0 w1 p h ls lv W) :
    Calls Tryz.prog 19 #[.pointer (some ⟨p, 0, none⟩), .slice (some ⟨q, 0, none⟩) 1 1] W fun e W' => e = .returned (.tuple #[]) ∧ (∃ v1, ShI w0 w1 p h (ls ++ [dataB h.cur id t]) v1 W' ∧ RowAt lv v1 W.heap.size) ∧ KeepBut W W' p lv.ownBlock := by
  refine Event_one p q 6 id b n t W (fun W' => (∃ v1, ShI w0 w1 p h (ls ++ [dataB h.cur id t]) v1 W' ∧ RowAt lv v1 W.heap.size) ∧ KeepBut W W' p lv.ownBlock) hq ((event_data w0 w1 p h ls lv id b n t _ hid hb ht hn (H.below (below_alloc (Below.refl _ _) _))).mono ?_)
  rintro e W' ⟨rfl, ⟨v1, h1, h2⟩, hk⟩
  exact ⟨rfl, ⟨v1, h1, h2.le (by simp)⟩, (KeepBut.of_below (below_alloc (Below.refl _ _) _) p lv.ownBlock).trans hk (Or.inl rfl)⟩
end Go.Proofs.YtgaboenipiojoaaGreatDoor.QAll
end

section
/- shell: Converse and Current; a row without its first text. -/
set_option linter.unusedVariables false
set_option linter.unusedSimpArgs false
namespace Go.Proofs.YtgaboenipiojoaaGreatDoor.QAll
open Go.RowKit Go.Proofs.YtgaboenipiojoaaGreatDoorW.PrintWords Go.Proofs.YtgaboenipiojoaaGreatDoorW.PrintLast Go.Proofs.YtgaboenipiojoaaGreatDoorW.PrintMore
set_option maxHeartbeats 2000000 in
set_option maxRecDepth 100000 in
theorem Converse_calls (p : Nat) (b : Bool) (w : World) (h : w.cell? ⟨p, 3, none⟩ = some (.bool b)) : Calls Tryz.prog 22 #[.pointer (some ⟨p, 0, none⟩)] w fun e w' => e = .returned (.bool b) ∧ w' = w := by
  go_enter Tryz.func22, Tryz.ntmps22
  go_wp2
  go_ret
  exact ⟨rfl, rfl⟩
set_option maxHeartbeats 2000000 in
set_option maxRecDepth 100000 in
theorem Current_calls (p : Nat) (c : Int) (w : World) (h : w.cell? ⟨p, 4, none⟩ = some (.int .i64 c)) : Calls Tryz.prog 23 #[.pointer (some ⟨p, 0, none⟩)] w fun e w' => e = .returned (.int .i64 c) ∧ w' = w := by
  go_enter Tryz.func23, Tryz.ntmps23
  go_wp2
  go_ret
  exact ⟨rfl, rfl⟩
theorem tail_cut (A : Option Addr) (n c : Nat) (hc : n + 1 ≤ c) : ∃ A' : Option Addr, (∀ W : World, (Instr.slice 24 (.slice A (n + 1) c) (some (.int .i64 1)) none none).run Tryz.prog W = .ok (.slice A' n (c - 1)) W) ∧
    ∀ (w : World) (x : ByteArray) (xs : List ByteArray), Kd.string.C w A (n + 1) (x :: xs) → Kd.string.C w A' n xs := by
  obtain ⟨ie, i1, i2, i3⟩ := inf9
  obtain ⟨A', h1, h2⟩ := print_cut_of (P := Tryz.prog) Value.string ByteArray.empty 24 9 .i64 Tryz.underlying24 i1 i2 A (n + 1) c 1 (by omega)
  refine ⟨A', fun W => h1 W, fun w x xs h => ?_⟩
  have := h2 w (x :: xs) hc (Kd.reads_of_C (h1 := fun _ => rfl) h)
  exact Kd.C_of_reads this
end Go.Proofs.YtgaboenipiojoaaGreatDoor.QAll
end

section
/- The reference's Digits, by walking. -/
set_option linter.unusedVariables false
set_option linter.unusedSimpArgs false
namespace Go.Proofs.YtgaboenipiojoaaGreatDoor.QAll
open Go.RowKit Go.Proofs.YtgaboenipiojoaaGreatDoorW.PrintWords Go.Proofs.YtgaboenipiojoaaGreatDoorW.PrintLast Go.Proofs.YtgaboenipiojoaaGreatDoorW.PrintMore
def digB (u : Nat) : ByteArray := ⟨#[UInt8.ofNat (48 + u % 10)]⟩
theorem digB_str (u d : Nat) (hd : u % 10 = d) : strOfNums [48 + (d : Int)] = digB u := by
  subst hd
  unfold digB strOfNums
  have h : (48 + ((u % 10 : Nat) : Int)).toNat = 48 + u % 10 := by omega
  show (⟨#[UInt8.ofNat (48 + ((u % 10 : Nat) : Int)).toNat]⟩ : ByteArray) = _
  rw [h]
end Go.Proofs.YtgaboenipiojoaaGreatDoor.QAll
end

section
/- The law ShellData, walked by hand. -/
set_option linter.unusedVariables false
set_option linter.unusedSimpArgs false
namespace Go.Proofs.YtgaboenipiojoaaGreatDoor.QAll
open Go.RowKit Go.Proofs.YtgaboenipiojoaaGreatDoorW.PrintWords Go.Proofs.YtgaboenipiojoaaGreatDoorW.PrintLast Go.Proofs.YtgaboenipiojoaaGreatDoorW.PrintMore
def dataS (cur : Int) (x : S49) : ByteArray := dataB cur x.f1 x.f4
def squelchlaw26_ShellData.f (k : Nat) (a0 : Int) (l : List S49) : Option Bool := if 0 ≤ a0 ∧ a0 < 256 ∧ (l.all fun x => decide (x.f2.size ≤ 9223372036854775807)) = true then some true else none
/-- The law's state behind i events: its own row and the shell's, apart. -/
structure LawI (w w1 : World) (pS : Nat) (h : Sh) (ws : List ByteArray) (v : Value) (W : World) : Prop where
 r : Kd.string.R 9 W w.heap.size (fun k => w1.heap.size ≤ k) v ws
 s : ∃ lv, ShI w w1 pS h (upB :: ws) lv W ∧ (v.ownBlock = none ∨ v.ownBlock ≠ lv.ownBlock)
theorem dec1 (id : Nat) (h : id < 10) : (⟨(Lib.decDigits id).toArray⟩ : ByteArray) = strOfNums [48 + (id : Int)] := by
 rw [digB_str id id (by omega), Pure.dec_rec, if_pos h]
 unfold digB
 rw [show id % 10 = id by omega]
theorem LawI.kept {w w1 W W2 W4 : World} {pS : Nat} {ws : List ByteArray} {v lv : Value} (H : Kd.string.R 9 W2 w.heap.size (fun k => w1.heap.size ≤ k) v ws) (H0 : Kd.string.R 9 W w.heap.size (fun k => w1.heap.size ≤ k) v ws) (hq : pS < w1.heap.size) (hap : v.ownBlock = none ∨ v.ownBlock ≠ lv.ownBlock) (hk : KeepBut W2 W4 pS lv.ownBlock) : Kd.string.R 9 W4 w.heap.size (fun k => w1.heap.size ≤ k) v ws :=
 Kd.R_of_own (hk.own (Kd.own_of_R H) (fun e => by have := H.1 _ e; omega) hap) H.1
theorem LawI.apart {w w1 W : World} {ws : List ByteArray} {v lv v1 : Value} (H : Kd.string.R 9 W w.heap.size (fun k => w1.heap.size ≤ k) v ws) (hap : v.ownBlock = none ∨ v.ownBlock ≠ lv.ownBlock) (hat : RowAt lv v1 W.heap.size) : v.ownBlock = none ∨ v.ownBlock ≠ v1.ownBlock := by
 rcases hat with hat | ⟨b, hb, hle⟩
 ·rw [hat]; exact hap
 ·rcases hv : v.ownBlock with _ | g
  ·exact Or.inl rfl
  ·refine Or.inr (fun e => ?_)
   rw [hb] at e
   have := Kd.R_lt H g hv
   injection e with e
   omega
theorem LawI.next {w w1 W W' : World} {pS : Nat} {h : Sh} {ws us : List ByteArray} {v v1 vn : Value} (S : ShI w w1 pS h (upB :: us) v1 W) (R : Kd.string.R 9 W w.heap.size (fun k => w1.heap.size ≤ k) v ws) (hap : v.ownBlock = none ∨ v.ownBlock ≠ v1.ownBlock) (ho : Kd.string.R 9 W' w.heap.size (fun k => w1.heap.size ≤ k) vn us) (hb : Below w.heap.size w W') (hg : W.grownBy W' v.ownBlock) (hat : vn.ownBlock = v.ownBlock ∨ ∃ b, vn.ownBlock = some b ∧ W.heap.size ≤ b) : LawI w w1 pS h us vn W' := by
 refine ⟨ho, v1, S.grown hb hg (fun e => by have := R.1 _ e.symm; have := S.hq; omega) ?_, ?_⟩
 ·rcases hap with h | h
  ·rw [h]
   rcases v1.ownBlock with _ | g
   ·exact Or.inl rfl
   ·exact Or.inr (by simp)
  ·exact Or.inr (Ne.symm h)
 ·rcases hat with h | ⟨b, hb', hle⟩
  ·rw [h]; exact hap
  ·refine Or.inr (fun e => ?_)
   rw [hb'] at e
   have := Kd.R_lt S.r b e.symm
   omega
set_option maxHeartbeats 8000000 in
set_option maxRecDepth 100000 in
theorem squelchlaw26_ShellData.calls (k : Nat) (a0 : Int) (A : Option Addr) (n : Nat) (l : List S49) (r : Bool) (w : World) (hE : EnvW w) (hT_ : r = true) (hr : Kd.C k49 w A l.length l) (hn : l.length ≤ n) (h : squelchlaw26_ShellData.f k a0 l = some r) :
  Calls Tryz.prog 5 #[.int .u8 a0, .slice A l.length n] w fun e w' => e = .returned (.bool r) ∧ Below w.heap.size w w' := by
 unfold squelchlaw26_ShellData.f at h
 split at h
 ·rename_i ha
  obtain rfl := Option.some.inj h
  clear h hT_
  obtain ⟨c, rfl⟩ := Int.eq_ofNat_of_zero_le ha.1
  have hc : c < 256 := by omega
  have HZ := Aside0.mk ha.2.2
  clear ha
  have HA := Aside0.mk (awake26_calls w hE)
  have HE := Aside0.mk hE
  have HC := Aside0.mk hr
  clear hE hr hn
  obtain ⟨d, hd⟩ : ∃ d, c % 9 = d := ⟨_, rfl⟩
  have hd9 : d < 9 := by omega
  have hmod : Int.tmod (c : Int) 9 = (d : Int) := by rw [← hd]; rfl
  by_cases hlen : 150 < l.length
  ·have hl1 : (150 : Int) < (l.length : Int) := by omega
   go_enter Tryz.func5, Tryz.ntmps5
   go_wp2_with (fail)
   refine HA.out.mono ?_
   rintro e w1 ⟨rfl, hb1⟩
   have HB1 := Aside0.mk hb1
   clear hb1 HA
   go_wp2_with (fail)
   go_ret
   exact ⟨rfl, HB1.out⟩
  ·have hl1 : ¬ (150 : Int) < (l.length : Int) := by omega
   go_enter Tryz.func5, Tryz.ntmps5
   go_wp2_with (fail)
   refine HA.out.mono ?_
   rintro e w1 ⟨rfl, hb1⟩
   have HB1 := Aside0.mk hb1
   clear hb1 HA
   go_wp2_with (fail)
   refine (shell_New_ok ⟨#[77, 69]⟩ 0 w1 aw26_own).mono ?_
   rintro e w2 ⟨pE, pS, m, rfl, h2⟩
   have H2 := Aside0.mk h2
   clear h2
   go_wp2_with (fail)
   have HU := Aside0.mk (event_up1 w1 w2 pS m w2.heap.size _ [] _ (1 + (d : Int)) _ (heap_alloc_new w2 (.cells #[.int .i64 1, .int .i64 (1 + (d : Int)), .string ⟨#[88]⟩, .int .i64 0, .string ⟨#[]⟩] 49 (0, 0))) rfl rfl (blk_alloc H2.out.mp _) H2.out.hm (blk_lt H2.out.mp) (by simp) (H2.out.sh.below (below_alloc (Below.refl _ _) _)))
   refine HU.out.mono ?_
   rintro e w3 ⟨rfl, v1, h3⟩
   have H3 := Aside0.mk h3
   clear h3 HU H2
   generalize hcu : 1 + (d : Int) = cu at H3 ⊢
   generalize hsh : ({ E := .pointer (some ⟨pE, 0, none⟩), o := ⟨#[77, 69]⟩, sid := 0, conv := true, cur := cu, m := .map (some m) } : Sh) = sh at H3
   have hshc : sh.cur = cu := by rw [← hsh]
   have hshv : sh.conv = true := by rw [← hsh]
   clear hsh hcu hmod hd hd9
   have HI : Aside0 (LawI w1 w2 pS sh (([] : List S49).map (dataS cu)) (.slice none 0 0) w3) := ⟨⟨Kd.R_nil _ _ _ _ _, v1, H3.out, Or.inl rfl⟩⟩
   go_wp2_with (fail)
   go_loopw [8, 35] (fun v8 v35 wr => ∃ i : Nat, i ≤ l.length ∧ v35 = .int .i64 i ∧ Aside0 (LawI w1 w2 pS sh ((l.take i).map (dataS cu)) v8 wr)) (fun _ v35 _ => l.length - (intOf v35).toNat)
   case atStart => exact ⟨0, by omega, rfl, by rw [List.take_zero]; exact HI⟩
   case round =>
    obtain ⟨i, hi, rfl, HL⟩ := hrel
    clear HI
    by_cases hlt : i < l.length
    ·obtain ⟨lv, hS, hap⟩ := HL.out.s
     have HS := Aside0.mk hS
     have HW := Aside0.mk (below_then HB1.out HB1.out.size hS.b)
     obtain ⟨ad, hA, c0, c1, c2, c3, c4⟩ := at_T49 (Kd.C_below HC.out HW.out) i hlt
     subst hA
     have HT := Aside0.mk (show (l.take (i + 1)).map (dataS cu) = (l.take i).map (dataS cu) ++ [dataS cu (l.getD i z49)] by
      rw [List.take_succ_eq_append_getElem hlt, List.map_append, List.getD_eq_getElem?_getD, List.getElem?_eq_getElem hlt]
      rfl)
     have HWL := Aside0.mk (show ((l.take i).map (dataS cu)).length = i by rw [List.length_map, List.length_take]; omega)
     have HLr := Aside0.mk HL.out.r
     obtain ⟨ws, hws⟩ : ∃ ws, (l.take i).map (dataS cu) = ws := ⟨_, rfl⟩
     rw [hws] at HS HT HWL HLr
     clear HL hS hws
     have hb0 : (l.getD i z49).f2.size ≤ 9223372036854775807 := by
      have := List.all_eq_true.1 HZ.out (l[i]) (List.getElem_mem hlt)
      rw [List.getD_eq_getElem?_getD, List.getElem?_eq_getElem hlt]
      exact of_decide_eq_true this
     generalize l.getD i z49 = x at c0 c1 c2 c3 c4 HT hb0
     obtain ⟨x0, x1, x2, x3, x4⟩ := x
     dsimp only at c0 c1 c2 c3 c4 hb0
     have hlt' : (i : Int) < (l.length : Int) := by omega
     have hapA := Aside0.mk hap
     clear hap
     by_cases h1000 : 1000 < x4.size
     ·have g1 : (1000 : Int) < (x4.size : Int) := by omega
      have HWn := Aside0.mk (below_alloc HW.out (.cells #[.int .i64 x0, .int .i64 x1, .string x2, .int .i64 x3, .string x4] 49))
      go_wp2_with (fail)
      go_ret
      exact ⟨rfl, HWn.out⟩
     ·have g1 : ¬ (1000 : Int) < (x4.size : Int) := by omega
      by_cases hid1 : x1 < 1
      ·have HWn := Aside0.mk (below_alloc HW.out (.cells #[.int .i64 x0, .int .i64 x1, .string x2, .int .i64 x3, .string x4] 49))
       go_wp2_with (fail)
       go_ret
       exact ⟨rfl, HWn.out⟩
      ·by_cases hid9 : 9 < x1
       ·have HWn := Aside0.mk (below_alloc HW.out (.cells #[.int .i64 x0, .int .i64 x1, .string x2, .int .i64 x3, .string x4] 49))
        go_wp2_with (fail)
        go_ret
        exact ⟨rfl, HWn.out⟩
       ·obtain ⟨id, rfl⟩ := Int.eq_ofNat_of_zero_le (show 0 ≤ x1 by omega)
        have hwl : (upB :: ws).length < 1000 := by rw [List.length_cons, HWL.out]; omega
        have hA2 := below_alloc (below_alloc (Below.refl wr.heap.size wr) (.cells #[.int .i64 6, .int .i64 (id : Int), .string x2, .int .i64 x3, .string x4] 49)) (.cells #[.int .i64 6, .int .i64 (id : Int), .string x2, .int .i64 x3, .string x4] 49)
        have hX1 : (wr.alloc (.cells #[.int .i64 6, .int .i64 (id : Int), .string x2, .int .i64 x3, .string x4] 49)).heap[wr.heap.size]? = some (.cells #[.int .i64 6, .int .i64 (id : Int), .string x2, .int .i64 x3, .string x4] 49) := heap_alloc_new wr _
        have HV := Aside0.mk (event_data1 w1 w2 pS (wr.heap.size + 1) sh (upB :: ws) lv id x2 x3 x4 _ (new_at (wr.alloc (.cells #[.int .i64 6, .int .i64 (id : Int), .string x2, .int .i64 x3, .string x4] 49)) (.cells #[.int .i64 6, .int .i64 (id : Int), .string x2, .int .i64 x3, .string x4] 49) (wr.heap.size + 1) (by simp)) ⟨by omega, by omega⟩ hb0 (by omega) hwl (HS.out.below hA2))
        have HX2 := Aside0.mk (blk_alloc hX1 (.cells #[.int .i64 6, .int .i64 (id : Int), .string x2, .int .i64 x3, .string x4] 49))
        have HR := Aside0.mk (Kd.R_below HLr.out hA2)
        have HA2 := Aside0.mk hA2
        clear hA2 hX1 hwl
        go_wp2_with (fail)
        refine HV.out.mono ?_
        rintro e w4 ⟨rfl, ⟨v1, h4, hat4⟩, hk4⟩
        rw [hshc] at h4
        have HX4 := Aside0.mk (hk4.blk HX2.out (fun e => by have := blk_lt HS.out.a; omega) (fun e => by have := Kd.R_lt HS.out.r _ e.symm; omega))
        have HR4 := Aside0.mk (LawI.kept HR.out HLr.out HS.out.hq hapA.out hk4)
        have hap4 := Aside0.mk (LawI.apart HLr.out hapA.out (hat4.le HA2.out.size))
        have HS4 := Aside0.mk h4
        clear h4 hat4 hk4 HV HX2 HR HA2
        have k0 := blk_cell HX4.out 0
        have k1 := blk_cell HX4.out 1
        have k4 := blk_cell HX4.out 4
        have hz := blk_lt HX4.out
        by_cases hcc : (id : Int) = cu
        ·have hcb : ((id : Int) != cu) = false := by simpa using hcc
         have HD := Aside0.mk (show dataS cu ⟨x0, id, x2, x3, x4⟩ = x4 by unfold dataS dataB; rw [if_pos hcc])
         rw [HD.out] at HT
         have HS5 := Aside0.mk (show ShI w1 w2 pS sh (upB :: (ws ++ [x4])) v1 w4 by have := HS4.out; unfold dataB at this; rw [if_pos hcc] at this; exact this)
         have HR5 := HR4
         have hap5 := hap4
         clear hcc HS4 HD hap4
         obtain ⟨A8, c8, hv8⟩ := Kd.R_slice HR5.out
         subst hv8
         go_wp2_with ((at_builtin; refine Kd.R_append Kd.string (w0 := w1) w1.heap.size rfl (.tmp 74) (.tmp 76) 24 9 (.string ⟨#[]⟩) 16 rfl Tryz.underlying24 einfo9 rfl (by decide) (by omega) (.slice A8 ws.length c8) ws x4 [.string x4] (fun k => w2.heap.size ≤ k) (fun _ => False) rfl rfl rfl (fun _ hk => hk.elim) (fun k hk => Nat.le_trans HS5.out.k hk) HR5.out HS5.out.b HS5.out.b.size (by rw [HWL.out]; omega) ?_; intro vn wd ho hbd hgd hat; have HN := Aside0.mk (LawI.next HS5.out HR5.out hap5.out ho hbd hgd hat); clear ho hbd hgd hat))
         go_roundw
         case rel => exact ⟨i + 1, by omega, by go_num, ⟨by rw [HT.out]; exact HN.out⟩⟩
         case measure => simp [intOf] <;> omega
        ·have hcb : ((id : Int) != cu) = true := by simpa using hcc
         have hdB := dec1 id (by omega)
         have hcv := run_convert_bytes_arg (P := Tryz.prog) (w := w4.alloc (.cells #[.int .u8 (48 + (id : Int))] 5)) 50 5 Tryz.underlying50 Tryz.underlying5 w4.heap.size 0 1 1 [48 + (id : Int)] rfl (fun i hi => by
          obtain rfl : i = 0 := by omega
          exact blk_cell (heap_alloc_new w4 (.cells #[.int .u8 (48 + (id : Int))] 5)) 0) 9 Tryz.underlying9
         have h5 : IntKind.u8.wrap (48 + (id : Int)) = 48 + (id : Int) := by show _ % 256 = _; omega
         have hs1 : (strOfNums [48 + (id : Int)]).size = 1 := rfl
         rw [← hdB] at hcv hs1
         clear hdB
         have hdn : (⟨(Lib.decDigits ((id : Int)).toNat).toArray⟩ : ByteArray) = ⟨(Lib.decDigits id).toArray⟩ := by rw [Int.toNat_natCast]
         obtain ⟨dB, hdB⟩ : ∃ dB, (⟨(Lib.decDigits id).toArray⟩ : ByteArray) = dB := ⟨_, rfl⟩
         obtain ⟨xB, hxB⟩ : ∃ xB, (⟨#[91]⟩ : ByteArray) ++ dB ++ (⟨#[93, 32]⟩ : ByteArray) ++ x4 = xB := ⟨_, rfl⟩
         have hDB : dataB cu id x4 = xB := by unfold dataB; rw [if_neg hcc, hdn, hdB, hxB]
         have HT2 := Aside0.mk (HT.out.trans (by rw [show dataS cu ⟨x0, id, x2, x3, x4⟩ = xB from hDB]))
         have HS5 := Aside0.mk (show ShI w1 w2 pS sh (upB :: (ws ++ [xB])) v1 (w4.alloc (.cells #[.int .u8 (48 + (id : Int))] 5)) by have := HS4.out.below (below_alloc (Below.refl _ _) (.cells #[.int .u8 (48 + (id : Int))] 5)); rw [hDB] at this; exact this)
         have HR5 := Aside0.mk (Kd.R_below HR4.out (below_alloc (Below.refl _ _) (.cells #[.int .u8 (48 + (id : Int))] 5)))
         have hap5 := hap4
         rw [hdB] at hcv hs1
         have hz1 : ((⟨#[91]⟩ : ByteArray) ++ dB).size = 2 := by rw [ByteArray.size_append, hs1]; rfl
         have hz2 : ((⟨#[91]⟩ : ByteArray) ++ dB ++ (⟨#[93, 32]⟩ : ByteArray)).size = 4 := by rw [ByteArray.size_append, hz1]; rfl
         obtain ⟨w5, hw5⟩ : ∃ w5, w4.alloc (.cells #[.int .u8 (48 + (id : Int))] 5) = w5 := ⟨_, rfl⟩
         rw [hw5] at hcv HS5 HR5
         clear hcc HS4 hap4 HR4 hDB hdn hdB HT
         obtain ⟨A8, c8, hv8⟩ := Kd.R_slice HR5.out
         subst hv8
         go_wp2_with ((at_builtin; refine Kd.R_append Kd.string (w0 := w1) w1.heap.size rfl (.tmp 74) (.tmp 76) 24 9 (.string ⟨#[]⟩) 16 rfl Tryz.underlying24 einfo9 rfl (by decide) (by omega) (.slice A8 ws.length c8) ws xB [.string xB] (fun k => w2.heap.size ≤ k) (fun _ => False) rfl rfl rfl (fun _ hk => hk.elim) (fun k hk => Nat.le_trans HS5.out.k hk) HR5.out HS5.out.b HS5.out.b.size (by rw [HWL.out]; omega) ?_; intro vn wd ho hbd hgd hat; have HN := Aside0.mk (LawI.next HS5.out HR5.out hap5.out ho hbd hgd hat); clear ho hbd hgd hat))
         go_roundw
         case rel => exact ⟨i + 1, by omega, by go_num, ⟨by rw [HT2.out]; exact HN.out⟩⟩
         case measure => simp [intOf] <;> omega
    ·obtain rfl : i = l.length := by omega
     obtain ⟨lv, hS, hap⟩ := HL.out.s
     have hge : ¬ ((l.length : Nat) : Int) < (l.length : Int) := by omega
     have HR0 := Aside0.mk HL.out.r
     obtain ⟨ws, hws⟩ : ∃ ws, (l.take l.length).map (dataS cu) = ws := ⟨_, rfl⟩
     rw [hws] at hS HR0
     have HLn := Aside0.mk (Lines_calls w1 w2 pS sh _ lv wr hS)
     have hq := hS.hq
     have hwl : ws.length ≤ 150 := by rw [← hws, List.length_map, List.length_take]; omega
     clear hS hap hws HL
     obtain ⟨Av, cv, hv8⟩ := Kd.R_slice HR0.out
     subst hv8
     go_wp2_with (fail)
     refine HLn.out.mono ?_
     rintro e w5 ⟨rfl, hr5, hs5, hk5⟩
     have hr8 := Kd.R_keep HR0.out hk5 (fun k hk => by omega)
     obtain ⟨-, hcv8, hC8⟩ := Kd.R_reads' hr8
     obtain ⟨Ag, cg, hlv, hcg, hCg⟩ := Kd.R_reads hr5
     subst hlv
     obtain ⟨adg, hAg, hx0⟩ := Kd.at_string hCg 0 (by omega) (by rw [List.length_cons]; omega)
     rw [List.length_cons] at hCg hcg
     obtain ⟨At, hcut, htail⟩ := tail_cut Ag ws.length cg hcg
     have HT := Aside0.mk (htail w5 upB ws hCg)
     have HSm := Aside0.mk (Same_eq At Av (cg - 1) cv ws w5 HT.out hC8)
     have HW5 := Aside0.mk (below_then HB1.out HB1.out.size hs5.b)
     have HS5 := Aside0.mk hs5
     subst hAg
     have hx1 : w5.cell? adg = some (.string ⟨#[42, 42, 42, 32, 67, 79, 78, 78, 69, 67, 84, 69, 68, 32, 84, 79, 32, 88]⟩) := by
      have h2 : w5.cell? adg = some (.string upB) := by simpa [Addr.add, rdOf] using hx0
      exact h2
     have hself : (cu == cu) = true := beq_self_eq_true _
     clear hr8 hcv8 hC8 hCg hcg hr5 htail hx0 HR0 hs5 hk5 HLn
     go_wp2_with (first | (go_at_call 21; (with_reducible refine HSm.out.mono ?_); rintro e w6 ⟨rfl, hb6⟩; have H6 := Aside0.mk (HS5.out.below hb6); have HW6 := Aside0.mk (below_then HW5.out HW5.out.size hb6); clear hb6 HSm; obtain ⟨q0, q1, q2, q3, q4, q5, q6, q7, q8⟩ := eight_cell H6.out.a; rw [hshv] at q1; rw [hshc] at q3) | (go_at_call 22; refine (Converse_calls _ _ _ (by assumption)).mono ?_; rintro e w7 ⟨rfl, rfl⟩) | (go_at_call 23; refine (Current_calls _ _ _ (by assumption)).mono ?_; rintro e w7 ⟨rfl, rfl⟩))
     go_ret
     exact ⟨rfl, HW6.out⟩
 ·cases h
end Go.Proofs.YtgaboenipiojoaaGreatDoor.QAll
end

section
/- The plain law of ShellData. -/
namespace Go.Proofs.YtgaboenipiojoaaGreatDoor.Pure
open Go.Proofs.YtgaboenipiojoaaGreatDoor.QAll
theorem ShellData (a0 : Int) (l : List S49) (h0 : (Lit.int .u8 a0).wf = true) (h : ∀ d ∈ l, (Lit.int .i64 d.f0).wf = true ∧ (Lit.int .i64 d.f1).wf = true ∧ d.f2.size ≤ maxLen ∧ (Lit.int .i64 d.f3).wf = true ∧ d.f4.size ≤ maxLen) : ∃ k, squelchlaw26_ShellData.f k a0 l = some true := by
  have h' : decide (IntKind.u8.min ≤ a0) && decide (a0 ≤ IntKind.u8.max) = true := by simpa [Lit.wf] using h0
  simp [IntKind.min, IntKind.max, IntKind.signed, IntKind.bits] at h'
  refine ⟨0, ?_⟩
  unfold squelchlaw26_ShellData.f
  rw [if_pos]
  refine ⟨by omega, by omega, ?_⟩
  simp only [List.all_eq_true, decide_eq_true_eq]
  exact fun x hx => (h x hx).2.2.1
end Go.Proofs.YtgaboenipiojoaaGreatDoor.Pure
end

section
/- From a row's listed variables, and the world's shape, to what the walks ask of the package's variables; and the wrap of a row that hands on both. -/
set_option linter.unusedVariables false
namespace Go.Proofs.YtgaboenipiojoaaGreatDoor.QAll
open Go.RowKit Go.Lib

theorem lz1 : Tryz.prog.globalNamed "strconv.ErrSyntax" = some 7 := by kernel_rfl
theorem lz2 : Tryz.prog.globalNamed "strconv.ErrRange" = some 8 := by kernel_rfl
theorem lz3 : Tryz.prog.globalNamed "internal/strconv.uint64pow10" = some 6 := by kernel_rfl
theorem lzt1 : (Tryz.prog.globals[7]?).map (·.type) = some 74 := by kernel_rfl
theorem lzt2 : (Tryz.prog.globals[8]?).map (·.type) = some 74 := by kernel_rfl
theorem lzt3 : (Tryz.prog.globals[6]?).map (·.type) = some 198 := by kernel_rfl
theorem lzu109 : Tryz.prog.underlying 74 = some (.interface #[("Error", 78)]) := by kernel_rfl
theorem tab_of_reads {W : World} {name : String} {k : IntKind} {zs : List Int} {g : Nat} {t e : TypeId} {n : Nat}
    (hg : Tryz.prog.globalNamed name = some g) (hty : (Tryz.prog.globals[g]?).map (·.type) = some t) (ht : Tryz.prog.underlying t = some (.array n e)) (he : Tryz.prog.underlying e = some (.int k)) (hce : Tryz.prog.cellsOf e = 1) (hct : Tryz.prog.cellsOf t = n)
    (h : VarReads Tryz.prog W name (tabData k zs)) : TabIs Tryz.prog W name k zs := by
  obtain ⟨g', t', cs, fuel, p, hg', ht', hvar, hd⟩ := h
  obtain rfl := Option.some.inj (hg.symm.trans hg')
  obtain rfl := Option.some.inj (hty.symm.trans ht')
  unfold TabIs
  rw [hvar, ← cells_of_tab ht he hce hct hd]
theorem err_of_reads {W : World} {name : String} {g : Nat} {nm : String} {d : DataW Unit}
    (hg : Tryz.prog.globalNamed name = some g) (hty : (Tryz.prog.globals[g]?).map (·.type) = some 74)
    (h : VarReads Tryz.prog W name (.iface nm d)) : ∃ ev, W.cell? ⟨g, 0, none⟩ = some ev ∧ (ev = .nilIface ∨ ∃ te pe, ev = .iface te pe) := by
  obtain ⟨g', t', cs, fuel, p, hg', ht', hvar, hd⟩ := h
  obtain rfl := Option.some.inj (hg.symm.trans hg')
  obtain rfl := Option.some.inj (hty.symm.trans ht')
  obtain ⟨fuel', u, v, hcs, _, _⟩ := iface_of_trod lzu109 hd
  refine ⟨.iface u v, ?_, Or.inr ⟨u, v, rfl⟩⟩
  have e : cs = #[.iface u v] := by apply Array.ext'; simpa using hcs
  subst e
  simpa using World.var?_cell hg hvar 0
theorem maxLen_shaped {W : World} (h : W.ShapedOpen Tryz.prog) : ∃ m, W.cell? ⟨3, 0, none⟩ = some (.int .i64 m) :=
  cell_of_shapedOpen_int (t := 3) (zero := #[.int .i64 0]) h (of_decide_eq_true (by kernel_rfl)) (by kernel_rfl) rfl (by kernel_rfl) (by kernel_rfl) Tryz.underlying3
def u8ren : Go.Shelf.Ren := ⟨fun n => n, fun | 5 => 5 | 119 => 131 | 138 => 166 | 139 => 167 | n => n, fun | 3 => 4 | 4 => 5 | n => n⟩
theorem u8types : U8Types Tryz.prog u8ren := ⟨by kernel_rfl, by kernel_rfl, by kernel_rfl, by kernel_rfl⟩
theorem u8extra : U8Extra Tryz.prog u8ren := ⟨by kernel_rfl, by kernel_rfl, by kernel_rfl, by kernel_rfl, by kernel_rfl, by kernel_rfl, by kernel_rfl⟩
theorem lz4 : Tryz.prog.globalNamed "strings.asciiSpace" = some 0 := by kernel_rfl
theorem lzt4 : (Tryz.prog.globals[0]?).map (·.type) = some 131 := by kernel_rfl
theorem first_same : (Rows.laid_unicode_utf8_first : DataW Unit) = firstData := by kernel_rfl
theorem accept_same : (Rows.laid_unicode_utf8_acceptRanges : DataW Unit) = acceptData := by kernel_rfl
theorem space_same : (Rows.laid_strings_asciiSpace : DataW Unit) = tabData .u8 Lib.asciiSpaceTab := by kernel_rfl
theorem env_of_laid {W : World} {l : List (String × DataW Unit)} (hsh : W.ShapedOpen Tryz.prog) (hL : laidMet Tryz.prog l W)
    (h1 : ("internal/strconv.uint64pow10", Rows.laid_internal_strconv_uint64pow10) ∈ l) (h2 : ("strconv.ErrRange", Rows.laid_strconv_ErrRange) ∈ l) (h3 : ("strconv.ErrSyntax", Rows.laid_strconv_ErrSyntax) ∈ l)
    (h4 : ("unicode/utf8.first", Rows.laid_unicode_utf8_first) ∈ l) (h5 : ("unicode/utf8.acceptRanges", Rows.laid_unicode_utf8_acceptRanges) ∈ l) (h6 : ("strings.asciiSpace", Rows.laid_strings_asciiSpace) ∈ l) : EnvW W := by
  refine ⟨maxLen_shaped hsh, err_of_reads lz1 lzt1 (laidMet.reads hL h3), err_of_reads lz2 lzt2 (laidMet.reads hL h2), ?_, ?_, ?_⟩
  · exact tab_of_reads (t := 198) (zs := Lib.pow10Tab) lz3 lzt3 Tryz.underlying198 Tryz.underlying121 (by kernel_rfl) (by kernel_rfl) (laidMet.reads hL h1)
  · have a := laidMet.reads hL h4
    have b := laidMet.reads hL h5
    rw [first_same] at a
    rw [accept_same] at b
    exact utf8Tabs_of_readsT u8types u8extra a b
  · have c := laidMet.reads hL h6
    rw [space_same] at c
    exact tab_of_reads (t := 131) (zs := Lib.asciiSpaceTab) lz4 lzt4 Tryz.underlying131 Tryz.underlying5 (by kernel_rfl) (by kernel_rfl) c

/-- The wrap of a row that lists variables, with the reach, the listed variables and the world's shape handed on. -/
theorem returns_laid_shaped {H : Type} {enc : TypeId × Value → H} {a : Assume} {C : Checked} {os : Os} {f : FuncId} {fn : Func} {s : ChangeSpec} {conds : List PathCond} {apart fresh handsOn again : Bool} {l : List (String × DataW Unit)}
    (own : ownKnob C.prog.godebug = none) (started : os.Started) (noInit : C.prog.inits.idxOf? f = none) (hfn : C.prog.funcs[f]? = some fn)
    (witness : ∃ (w : World) (tape : Tape) (i : Input), w.os = os ∧ (w.forCall tape i).Shaped C.prog ∧ i.vars = [] ∧ Input.okWide C.prog (w.forCall tape i) .any w.heap.size f i ∧
      ((s.pre enc C.prog fn conds apart (w.forCall tape i).memory i.args ∧ laidMetH C.prog l (w.forCall tape i).memory) ∧ sizedMet enc C.prog fn (OpenSpec.ofChange s) apart (w.forCall tape i).memory i.args) ∧ a.holds C.prog (lone (Frame.enter C.prog f i.args .normal) [] (w.forCall tape i)))
    (contract : ∀ (W : World) (base : Nat) (args : Array Value) (ds gs : List (DataW H)) (before : List MemPlace),
      (∀ (j : Nat) t v, fn.params[j]? = some t → args[j]? = some v → Value.okWide C.prog W .any base t v) →
      DataW.Whole enc C.prog fn.params.toList s.vars apart W args.toList ds gs before →
      conds.all (PathCond.test C.prog ⟨fn.params.toList, ds, s.plain.varTypes C.prog, gs⟩) = true →
      (DataW.weightsEach C.prog (fn.params.toList ++ s.plain.varTypes C.prog) (ds ++ gs)).all (· ≤ reachBytes) = true → laidMetH C.prog l W → W.ShapedOpen C.prog →
      Calls C.prog f args W fun e W' => ∃ v, e = .returned v ∧ s.post enc C.prog fn apart fresh handsOn again W args v W') :
    ReturnsInHanded a C os f .any (fun w args => (s.pre enc C.prog fn conds apart w args ∧ laidMetH C.prog l w) ∧ sizedMet enc C.prog fn (OpenSpec.ofChange s) apart w args) (s.post enc C.prog fn apart fresh handsOn again) := by
  refine returnsInHanded_of_calls own started noInit witness ?_
  intro w tape i _ hsh _ hok hpre hholds
  obtain ⟨_, _, _, fn', hfn', _, _, _, _, hval⟩ := hok
  have e : fn' = fn := Option.some.inj (hfn'.symm.trans hfn)
  subst e
  obtain ⟨⟨⟨ds, gs, before, hw, hc⟩, hx⟩, hz⟩ := hpre
  have hw' := DataW.Whole.of_heap (w' := w.forCall tape i) (by rfl) hw
  refine (contract (w.forCall tape i) w.heap.size i.args ds gs before hval hw' hc (hz.weights hw) (laidMetH.of_heap (by rfl) hx) hsh).mono fun e W' ⟨v, he, hp⟩ => ?_
  subst he
  exact ChangeSpec.post_blind hp
end Go.Proofs.YtgaboenipiojoaaGreatDoor.QAll
end

section
/- A slice that came in, laid open: its elements as a list, read as the walks read them. -/
set_option linter.unusedVariables false
namespace Go.Proofs.YtgaboenipiojoaaGreatDoor.QAll
open Go.ChangeShapes Go.WideShapes Go.Deep Go.Proofs.YtgaboenipiojoaaGreatDoorW.PrintWords
theorem list_of {α : Type} {Pr : Nat → α → Prop} : ∀ n : Nat, (∀ i, i < n → ∃ a, Pr i a) → ∃ l : List α, l.length = n ∧ ∀ i a, l[i]? = some a → Pr i a
  | 0, _ => ⟨[], rfl, fun i a h => by simp at h⟩
  | n + 1, h => by
    obtain ⟨l, hl, hp⟩ := list_of n (fun i hi => h i (by omega))
    obtain ⟨a, ha⟩ := h n (by omega)
    refine ⟨l ++ [a], by simp [hl], fun i b hb => ?_⟩
    by_cases hi : i < n
    · rw [List.getElem?_append_left (by omega)] at hb
      exact hp i b hb
    · by_cases he : i = n
      · subst he
        rw [← hl] at hb
        simp at hb
        subst hb
        exact ha
      · rw [List.getElem?_eq_none (by simp; omega)] at hb
        cases hb
theorem rows_of_trod {α H : Type} {enc : TypeId × Value → H} {P : Program} {w : World} {t e : TypeId} {fuel : Nat} {cs : List Value} {x : DataW H × List MemPlace} (d : Kd α) (ht : P.underlying t = some (.slice e)) (hC : P.cellsOf e = d.sz) (F : α → Prop)
    (hel : ∀ (n : Nat) (cs' : List Value) (y : DataW H × List MemPlace), DataW.trod enc P w 0 (fun _ => true) true n e cs' = some y → ∃ a, d.K w a cs' ∧ cs'.length = d.sz ∧ F a)
    (h : DataW.trod enc P w 0 (fun _ => true) true fuel t cs = some x) : ∃ (A : Option Addr) (c : Nat) (l : List α), cs = [.slice A l.length c] ∧ d.C w A l.length l ∧ l.length ≤ c ∧ ∀ a ∈ l, F a := by
  rcases open_slice ht h with ⟨rfl, _⟩ | ⟨a, len, cap, m, n, D, Pl, hcs, hb, hl, hm, hmm, hx, hi⟩
  · exact ⟨none, 0, [], rfl, Kd.C_nil d w, Nat.le_refl _, fun a h => by cases h⟩
  · have hml : len ≤ m := by rw [hmm]; simpa using hl
    obtain ⟨l, hll, hp⟩ := list_of (Pr := fun i b => F b ∧ ∃ c, c.length = d.sz ∧ d.K w b c ∧ ∀ j u, c[j]? = some u → w.cell? (a.add (i * d.sz + j)) = some u) len (fun i hil => by
      obtain ⟨cs', hc, ht'⟩ := hi i (by omega)
      obtain ⟨b, hK, hlen, hF⟩ := hel n cs' _ ht'
      obtain ⟨_, hcl, hat⟩ := World.cells?_some hc
      refine ⟨b, hF, cs', hlen, hK, fun j u hu => ?_⟩
      have hj : j < cs'.length := (List.getElem?_eq_some_iff.1 hu).1
      have := hat j (by omega)
      rw [hC] at this
      rw [← Go.Deep.add_add, this, hu])
    refine ⟨some a, cap, l, by rw [hcs, hll], ⟨rfl, ?_, fun _ => ⟨a, rfl, fun j p hjp => (hp j p hjp).2⟩⟩, by omega, fun b hb' => ?_⟩
    · have : maxLen = 9223372036854775807 := rfl
      omega
    · obtain ⟨i, hi', rfl⟩ := List.getElem_of_mem hb'
      exact (hp i _ (List.getElem?_eq_getElem hi')).1
end Go.Proofs.YtgaboenipiojoaaGreatDoor.QAll
end

section
/- The statement that the law squelchlaw26.ShellData is true of every input, its arguments left as they were: the row, out of its walk and its plain law. Written by a program of this session (wip/pp/row.py). -/
namespace Go.Proofs.YtgaboenipiojoaaGreatDoor.shellDataRow
open Go.ChangeShapes Go.WideShapes Go.ChangeAt Go.RowKit
open Go.ChangeMaps (open_string shut_string)
set_option linter.unusedVariables false
set_option linter.unusedSimpArgs false
theorem own : ownKnob Tryz.prog.godebug = none := by kernel_rfl
theorem laidOut : laidOutB Tryz.prog = true := by kernel_rfl
theorem cells3 : Tryz.prog.cellsOf 3 = 1 := by kernel_rfl
theorem cells9 : Tryz.prog.cellsOf 9 = 1 := by kernel_rfl
theorem cells29 : Tryz.prog.cellsOf 29 = 2 := by kernel_rfl
theorem cells49 : Tryz.prog.cellsOf 49 = 5 := by kernel_rfl
set_option maxRecDepth 100000 in
theorem open29 {H : Type} {enc : TypeId × Value → H} {w : World} {fuel : Nat} {cs : List Value} {x : DataW H × List MemPlace} (h : DataW.trod enc Tryz.prog w 0 (fun _ => true) true fuel 29 cs = some x) :
    ∃ (a_0 : ByteArray) (a_1 : Int), cs = [.string a_0, .int .i64 a_1] ∧ x.1 = (.agg [(.lit (.string a_0.data.toList)), (.lit (.int .i64 a_1))]) ∧ a_0.size ≤ maxLen ∧ (Lit.int .i64 a_1).wf = true := by
  obtain ⟨xs, n, -, rfl, hc, hl, hg⟩ := DataW.trod_struct Tryz.underlying29 h
  rw [cells29] at hc
  obtain ⟨c0, c1, rfl⟩ : ∃ c0 c1, cs = [c0, c1] := by
    match cs, hc with
    | [c0, c1], _ => exact ⟨_, _, rfl⟩
  obtain ⟨y0, y1, rfl⟩ : ∃ y0 y1, xs = [y0, y1] := by
    match xs, hl with
    | [y0, y1], _ => exact ⟨_, _, rfl⟩
  clear h hc hl
  have g0 : DataW.trod enc Tryz.prog w 0 (fun _ => true) true n 9 [c0] = some y0 := by
    have z := hg 0 _ rfl
    simp only [cells9, List.drop_zero, List.drop_succ_cons, List.take_succ_cons, List.take_zero, List.getElem?_cons_zero, List.getElem?_cons_succ] at z
    exact z
  have g1 : DataW.trod enc Tryz.prog w 0 (fun _ => true) true n 3 [c1] = some y1 := by
    have z := hg 1 _ rfl
    simp only [cells3, List.drop_zero, List.drop_succ_cons, List.take_succ_cons, List.take_zero, List.getElem?_cons_zero, List.getElem?_cons_succ] at z
    exact z
  clear hg
  obtain ⟨a_0, e0, rfl, wa_0⟩ := DataW.trod_string Tryz.underlying9 g0
  simp only [List.cons.injEq, and_true] at e0
  subst e0
  obtain ⟨a_1, e1, rfl, wa_1⟩ := DataW.trod_int Tryz.underlying3 g1
  simp only [List.cons.injEq, and_true] at e1
  subst e1
  exact ⟨a_0, a_1, rfl, by simp only [List.map_cons, List.map_nil], wa_0, wa_1⟩
set_option maxRecDepth 100000 in
theorem open49 {H : Type} {enc : TypeId × Value → H} {w : World} {fuel : Nat} {cs : List Value} {x : DataW H × List MemPlace} (h : DataW.trod enc Tryz.prog w 0 (fun _ => true) true fuel 49 cs = some x) :
    ∃ (a_0 : Int) (a_1 : Int) (a_2_0 : ByteArray) (a_2_1 : Int) (a_3 : ByteArray), cs = [.int .i64 a_0, .int .i64 a_1, .string a_2_0, .int .i64 a_2_1, .string a_3] ∧ x.1 = (.agg [(.lit (.int .i64 a_0)), (.lit (.int .i64 a_1)), (.agg [(.lit (.string a_2_0.data.toList)), (.lit (.int .i64 a_2_1))]), (.lit (.string a_3.data.toList))]) ∧ (Lit.int .i64 a_0).wf = true ∧ (Lit.int .i64 a_1).wf = true ∧ a_2_0.size ≤ maxLen ∧ (Lit.int .i64 a_2_1).wf = true ∧ a_3.size ≤ maxLen := by
  obtain ⟨xs, n, -, rfl, hc, hl, hg⟩ := DataW.trod_struct Tryz.underlying49 h
  rw [cells49] at hc
  obtain ⟨c0, c1, c2, c3, c4, rfl⟩ : ∃ c0 c1 c2 c3 c4, cs = [c0, c1, c2, c3, c4] := by
    match cs, hc with
    | [c0, c1, c2, c3, c4], _ => exact ⟨_, _, _, _, _, rfl⟩
  obtain ⟨y0, y1, y2, y3, rfl⟩ : ∃ y0 y1 y2 y3, xs = [y0, y1, y2, y3] := by
    match xs, hl with
    | [y0, y1, y2, y3], _ => exact ⟨_, _, _, _, rfl⟩
  clear h hc hl
  have g0 : DataW.trod enc Tryz.prog w 0 (fun _ => true) true n 3 [c0] = some y0 := by
    have z := hg 0 _ rfl
    simp only [cells3, List.drop_zero, List.drop_succ_cons, List.take_succ_cons, List.take_zero, List.getElem?_cons_zero, List.getElem?_cons_succ] at z
    exact z
  have g1 : DataW.trod enc Tryz.prog w 0 (fun _ => true) true n 3 [c1] = some y1 := by
    have z := hg 1 _ rfl
    simp only [cells3, List.drop_zero, List.drop_succ_cons, List.take_succ_cons, List.take_zero, List.getElem?_cons_zero, List.getElem?_cons_succ] at z
    exact z
  have g2 : DataW.trod enc Tryz.prog w 0 (fun _ => true) true n 29 [c2, c3] = some y2 := by
    have z := hg 2 _ rfl
    simp only [cells29, List.drop_zero, List.drop_succ_cons, List.take_succ_cons, List.take_zero, List.getElem?_cons_zero, List.getElem?_cons_succ] at z
    exact z
  have g3 : DataW.trod enc Tryz.prog w 0 (fun _ => true) true n 9 [c4] = some y3 := by
    have z := hg 3 _ rfl
    simp only [cells9, List.drop_zero, List.drop_succ_cons, List.take_succ_cons, List.take_zero, List.getElem?_cons_zero, List.getElem?_cons_succ] at z
    exact z
  clear hg
  obtain ⟨a_0, e0, rfl, wa_0⟩ := DataW.trod_int Tryz.underlying3 g0
  simp only [List.cons.injEq, and_true] at e0
  subst e0
  obtain ⟨a_1, e1, rfl, wa_1⟩ := DataW.trod_int Tryz.underlying3 g1
  simp only [List.cons.injEq, and_true] at e1
  subst e1
  obtain ⟨a_2_0, a_2_1, e2, d2, wa_2_0, wa_2_1⟩ := open29 g2
  simp only [List.cons.injEq, and_true] at e2
  obtain ⟨rfl, rfl⟩ := e2
  obtain ⟨a_3, e3, rfl, wa_3⟩ := DataW.trod_string Tryz.underlying9 g3
  simp only [List.cons.injEq, and_true] at e3
  subst e3
  exact ⟨a_0, a_1, a_2_0, a_2_1, a_3, rfl, by simp only [List.map_cons, List.map_nil, d2], wa_0, wa_1, wa_2_0, wa_2_1, wa_3⟩
theorem met (os : Os) (args : Array Value) : laidMetH Tryz.prog Rows.shellDataRow.laid ((World.laidAll Tryz.prog os Rows.shellDataRow.laid).forCall (fun _ _ => 0) ⟨#[], args, []⟩).memory :=
  (show laidMet Tryz.prog Rows.shellDataRow.laid _ from laidMet_laidAll _ (by kernel_rfl) (by kernel_rfl))
set_option maxRecDepth 100000 in
theorem lifted (os : Os) (started : os.Started) (H : Type) (enc : TypeId × Value → H) :
    ReturnsInHanded {} Tryz.checked os 5 .any (fun w args => (Rows.shellDataSpec.pre enc Tryz.prog Tryz.f5 Rows.shellDataRow.domain false w args ∧ laidMetH Tryz.prog Rows.shellDataRow.laid w) ∧ sizedMet enc Tryz.prog Tryz.f5 (OpenSpec.ofChange Rows.shellDataSpec) false w args) (Rows.shellDataSpec.post enc Tryz.prog Tryz.f5 false true false false) := by
  refine QAll.returns_laid_shaped (C := Tryz.checked) own started (by kernel_rfl) Tryz.func5
    (ChangeSpec.witness_shaped (enc := enc) (C := Tryz.checked) (os := os) (X := fun w _ => laidMetH Tryz.prog Rows.shellDataRow.laid w) false (World.laidAll Tryz.prog os Rows.shellDataRow.laid) #[.int .u8 0, .slice none 0 0] 8 (World.laidAll_os _ _ _) (World.shaped_of_ZipB (by kernel_rfl) (by kernel_rfl)) (by kernel_rfl) (by kernel_rfl) (by kernel_rfl) (met os _)) ?_
  intro W base args ds gs before hval0 hW hcnd hsz0 hL hsh
  have hE : QAll.EnvW W := QAll.env_of_laid hsh (show laidMet Tryz.prog Rows.shellDataRow.laid W from hL) (by simp [Rows.shellDataRow]) (by simp [Rows.shellDataRow]) (by simp [Rows.shellDataRow]) (by simp [Rows.shellDataRow]) (by simp [Rows.shellDataRow]) (by simp [Rows.shellDataRow])
  have hsz : (DataW.weightsEach Tryz.prog (Tryz.f5.params.toList ++ Rows.shellDataSpec.plain.varTypes Tryz.prog) (ds ++ gs)).all (· ≤ reachBytes) = true := hsz0
  have hval : ∀ (j : Nat) t v, Tryz.f5.params[j]? = some t → args[j]? = some v → Value.okWide Tryz.prog W .any base t v := hval0
  have hW' := hW
  obtain ⟨p, q, hA0, hV, rfl, hfz, hnd⟩ := hW
  have hA : DataW.TrodAll enc Tryz.prog W 0 (fun _ => true) true Tryz.f5.params.toList args.toList ds p := hA0
  rw [Tryz.params5] at hA hval hsz
  obtain ⟨v0, vs0, d0, ds0, p0, q0, hargs, rfl, rfl, h0, r0⟩ := trodAll_cons hA
  obtain ⟨v1, vs1, d1, ds1, p1, q1, rfl, rfl, rfl, h1, r1⟩ := trodAll_cons r0
  obtain ⟨rfl, rfl, rfl⟩ := trodAll_nil r1
  obtain rfl : args = #[v0, v1] := by cases args; simp_all
  obtain ⟨rfl, rfl⟩ := trodVars_none hV
  have k0 := h0
  have lt0 : ∀ x ∈ p0, x.block < W.heap.size := by obtain ⟨m, hm⟩ := k0; exact DataW.trod_lt m _ _ _ hm
  obtain ⟨a0, rfl, rfl, rfl, wa0⟩ := open_int Tryz.underlying5 (hval 0 5 v0 rfl rfl) h0
  have k1 := h1
  have lt1 : ∀ x ∈ p1, x.block < W.heap.size := by obtain ⟨m, hm⟩ := k1; exact DataW.trod_lt m _ _ _ hm
  obtain ⟨av1, al1, ac1, rfl⟩ := okWide_slice Tryz.underlying43 (hval 1 43 v1 rfl rfl)
  obtain ⟨fu1, hf1⟩ := h1
  obtain ⟨Aa1, ca1, a1, e1, wa1⟩ := QAll.rows_of_trod QAll.k49 Tryz.underlying43 cells49 (fun d => (Lit.int .i64 d.f0).wf = true ∧ (Lit.int .i64 d.f1).wf = true ∧ d.f2.size ≤ maxLen ∧ (Lit.int .i64 d.f3).wf = true ∧ d.f4.size ≤ maxLen) (fun n cs' z hz => by
    obtain ⟨b_0, b_1, b_2_0, b_2_1, b_3, rfl, -, wb_0, wb_1, wb_2_0, wb_2_1, wb_3⟩ := open49 hz
    exact ⟨(⟨b_0, b_1, b_2_0, b_2_1, b_3⟩ : QAll.S49), QAll.k49_mk W _, rfl, wb_0, wb_1, wb_2_0, wb_2_1, wb_3⟩) hf1
  replace e1 : Value.slice Aa1 a1.length ca1 = .slice av1 al1 ac1 := by simpa [Value.cells] using (show Value.slice av1 al1 ac1 = .slice Aa1 a1.length ca1 by simpa [Value.cells] using e1).symm
  simp only [Value.slice.injEq] at e1
  obtain ⟨rfl, rfl, rfl⟩ := e1
  clear hA0 hval0 hsz0 hsz
  obtain ⟨k, hp⟩ := Pure.ShellData a0 a1 wa0 wa1.2.2
  refine (QAll.squelchlaw26_ShellData.calls k a0 Aa1 ca1 a1 true W hE rfl wa1.1 wa1.2.1 hp).mono fun e W' ⟨he, bel⟩ => ?_
  subst he
  exact ⟨_, rfl, _, _, _, [], _, [], hW', trodAll_mk1 (shut_bool Tryz.underlying4 _), (trodAll_cons_mk (Below.trod laidOut (by kernel_rfl) (of_decide_eq_true (by kernel_rfl)) k0 bel lt0) (trodAll_cons_mk (Below.trod laidOut (by kernel_rfl) (of_decide_eq_true (by kernel_rfl)) k1 bel lt1) trodAll_mk0)), rfl, bel.frame _, fun h => by cases h⟩
theorem over : Rows.shellDataRow.holds Tryz.pinned (OpenSpec.ofChange Rows.shellDataSpec) :=
  OpenClaim.holds_of_wide 5 Tryz.f5 rfl rfl rfl rfl rfl rfl rfl ⟨rfl, rfl, rfl, rfl, rfl⟩ rfl rfl rfl rfl rfl (by kernel_rfl) Tryz.func5 (by kernel_rfl)
    (of_decide_eq_true (by kernel_rfl)) (by unfold Func.isWrapper; first | (rw [if_pos (by decide +kernel)]; kernel_rfl) | (rw [if_neg (by decide +kernel)]; exact ⟨rfl, rfl⟩))
    (fun os started H enc _ => lifted os started H enc)
theorem card : Rows.ShellDataCardSaid :=
  Claim7.holds_tied_plain_at .later [] [.data, .data, .data, .data, .sentinel, .sentinel, .listed, .data, .pinned] true (true, "0d74bf6dcd223bde804431f584e3ebb3b310f172bf0644cccbcc099a9d7da62b") true
    over (fun _ h => by cases h) (by kernel_rfl) (fun _ h => by cases h) shellData_row_tie rfl ⟨rfl, rfl⟩ (by kernel_rfl) rfl
    (fun f fn hf hfn => by
      obtain rfl : f = 5 := Option.some.inj ((show Tryz.prog.funcNamed "squelch/squelchlaw26.ShellData" = some 5 by kernel_rfl).symm.trans hf) |>.symm
      obtain rfl : fn = Tryz.f5 := (Option.some.inj (Tryz.func5.symm.trans hfn)).symm
      exact ⟨by kernel_rfl, fun j t ht => by
        rw [Tryz.params5] at ht
        have hm := Array.mem_of_getElem? ht
        simp at hm
        rcases hm with rfl | rfl
        · exact (show Tryz.prog.wantsStandIn 5 = false by kernel_rfl)
        · exact (show Tryz.prog.wantsStandIn 43 = false by kernel_rfl)
      ⟩)
    (by kernel_rfl)
end Go.Proofs.YtgaboenipiojoaaGreatDoor.shellDataRow
namespace Go.Proofs.YtgaboenipiojoaaGreatDoor
theorem shellData_holds : Rows.ShellDataCardSaid := shellDataRow.card
#print axioms shellData_holds
end Go.Proofs.YtgaboenipiojoaaGreatDoor
end
