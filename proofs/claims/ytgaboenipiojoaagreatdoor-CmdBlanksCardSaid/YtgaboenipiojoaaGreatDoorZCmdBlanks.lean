/- The row of the law CmdBlanks, out of its walks and its plain law. -/
import Derived.Test.YtgaboenipiojoaaGreatDoorMCmdBlanks0
import Derived.Defers
import Derived.Recover
import Derived.Laws.Tables
import Derived.Lib.TrimAscii
import Derived.Lib.Replace
import Derived.Lib.Repeat
import Derived.Lib.Case
import Derived.Lib.IndexBytes
import Derived.Test.YtgaboenipiojoaaGreatDoorRows
import Derived.Lib.LaidU8
import Derived.Lib.LaidU8T
import Derived.Lay
import Derived.Handed
import Derived.SizedLaws
import Derived.LaidLaws
import Derived.Shelf.Vars
import Derived.LaidHandle
import Derived.Stop.Joined
import Derived.Test.YtgaboenipiojoaaGreatDoorTie
import Derived.Test.YtgaboenipiojoaaGreatDoorCards
import Derived.WalkKit
import Derived.ProofKit
import Derived.OpenShut
import Derived.ShutString
import Derived.ChangeOld
import Derived.Below
import Derived.Lib.SmallJoins
import Derived.Deep.Slices
import Derived.Deep.Fields
import Derived.ChangeSame
section
/- cmd's reader: number, onOff, beacon. -/
set_option linter.unusedVariables false
set_option linter.unusedSimpArgs false
namespace Go.Proofs.YtgaboenipiojoaaGreatDoor.QAll
open Go.RowKit Go.Proofs.YtgaboenipiojoaaGreatDoorW.PrintWords Go.Proofs.YtgaboenipiojoaaGreatDoorW.PrintLast Go.Proofs.YtgaboenipiojoaaGreatDoorW.PrintMore
set_option maxHeartbeats 2000000 in
set_option maxRecDepth 100000 in
theorem number_calls (w0 : World) (g : Nat) (s : ByteArray) (lo hi : Int) (hs : s.size ≤ 1000000) (w : World) (h0 : At0 w0 g s w) :
    Calls Tryz.prog 67 #[.pointer (some ⟨g, 0, none⟩), .int .i64 lo, .int .i64 hi] w (RdP g s.size (fun a v _ => v = encI a) (Pure.numN lo hi (Pure.nb s.data.toList)) w) := by
  have H0 := Aside0.mk h0
  clear h0
  have HW := Aside0.mk (word_calls g s hs _ H0.out.a)
  cases hw : Pure.wordN (Pure.nb s.data.toList) with
  | bad k =>
    have HX := Aside0.mk (show Pure.numN lo hi (Pure.nb s.data.toList) = .bad k by simp only [Pure.numN, hw, Pure.Rd.bind])
    rw [hw] at HW
    clear hw
    go_enter Tryz.func67, Tryz.ntmps67
    go_wp2_with (fail)
    refine HW.out.mono ?_
    rintro e w1 ⟨hk, he⟩
    obtain rfl : e = wrongE k := he
    have HK := Aside0.mk hk
    clear hk
    go_wp2
    refine ⟨rfl, HK.out, ?_⟩
    rw [HX.out]
  | got a r =>
    have HX1 := Aside0.mk (show Pure.numM a lo hi = none → Pure.numN lo hi (Pure.nb s.data.toList) = .bad 1 from fun hc => by simp only [Pure.numN, hw, Pure.Rd.bind, hc])
    have HX2 := Aside0.mk (show ∀ c, Pure.numM a lo hi = some c → Pure.numN lo hi (Pure.nb s.data.toList) = .got c r from fun c hc => by simp only [Pure.numN, hw, Pure.Rd.bind, hc])
    rw [hw] at HW
    clear hw
    go_enter Tryz.func67, Tryz.ntmps67
    go_wp2_with (fail)
    refine HW.out.mono ?_
    rintro e w1 ⟨hk, v, s', rfl, ⟨t, rfl, ht, hts⟩, ha, hr, hs'⟩
    have H2 := Aside0.mk (H0.out.kb hk ha)
    have HK := Aside0.mk hk
    have HC := Aside0.mk (numbered_calls t lo hi (by omega) w1 H2.out.env)
    rw [ht] at HC
    have HF := Aside0.mk (And.intro hr hs')
    clear hk ha hr hs'
    go_wp2_with (fail)
    refine HC.out.mono ?_
    rintro e w2 ⟨hb2, he⟩
    have H3 := Aside0.mk (H2.out.below hb2)
    have HK3 := Aside0.mk (HK.out.trans (KB.of_below hb2))
    clear hb2
    cases hc : Pure.numM a lo hi with
    | none =>
      rw [hc] at he
      obtain rfl : e = wrongE 1 := he
      have HX := Aside0.mk (HX1.out hc)
      clear hc HX1 HX2
      go_wp2
      refine ⟨rfl, HK3.out, ?_⟩
      rw [HX.out]
    | some c =>
      rw [hc] at he
      obtain rfl : e = .returned (encI c) := he
      have HX := Aside0.mk (HX2.out c hc)
      clear hc HX1 HX2
      unfold encI
      go_wp2
      go_ret
      refine ⟨HK3.out, ?_⟩
      rw [HX.out]
      exact ⟨_, s', rfl, rfl, H3.out.a, HF.out.1, HF.out.2⟩
theorem up_str {t : ByteArray} {a l : List UInt8} (ht : t.data.toList = a) : (upN t).toList = l ↔ Pure.upM a = l := by
  rw [Go.ByteArray.toList_eq]
  unfold upN
  rw [ht]
theorem up_const {t : ByteArray} {a l : List UInt8} (ht : t.data.toList = a) (h : Pure.upM a = l) : upN t = ⟨l.toArray⟩ := by
  unfold upN
  rw [ht, h]
set_option maxHeartbeats 2000000 in
set_option maxRecDepth 100000 in
theorem onOff_calls (w0 : World) (g : Nat) (s : ByteArray) (hs : s.size ≤ 1000000) (w : World) (h0 : At0 w0 g s w) :
    Calls Tryz.prog 66 #[.pointer (some ⟨g, 0, none⟩)] w (RdP g s.size (fun a v _ => v = encI a) (Pure.onN (Pure.nb s.data.toList)) w) := by
  have H0 := Aside0.mk h0
  clear h0
  have HW := Aside0.mk (word_calls g s hs _ H0.out.a)
  cases hw : Pure.wordN (Pure.nb s.data.toList) with
  | bad k =>
    have HX := Aside0.mk (show Pure.onN (Pure.nb s.data.toList) = .bad k by simp only [Pure.onN, hw, Pure.Rd.bind])
    rw [hw] at HW
    clear hw
    go_enter Tryz.func66, Tryz.ntmps66
    go_wp2_with (fail)
    refine HW.out.mono ?_
    rintro e w1 ⟨hk, he⟩
    obtain rfl : e = wrongE k := he
    have HK := Aside0.mk hk
    clear hk
    go_wp2
    refine ⟨rfl, HK.out, ?_⟩
    rw [HX.out]
  | got a r =>
    have HXX := Aside0.mk (show Pure.onN (Pure.nb s.data.toList) = if Pure.upM a = [79, 78] then .got 1 r else if Pure.upM a = [79, 70, 70] then .got 0 r else .bad 2 by simp only [Pure.onN, hw, Pure.Rd.bind])
    rw [hw] at HW
    clear hw
    go_enter Tryz.func66, Tryz.ntmps66
    go_wp2_with (fail)
    refine HW.out.mono ?_
    rintro e w1 ⟨hk, v, s', rfl, ⟨t, rfl, ht, hts⟩, ha, hr, hs'⟩
    have H2 := Aside0.mk (H0.out.kb hk ha)
    have HK := Aside0.mk hk
    have HC := Aside0.mk (upper_calls t (by omega) w1 H2.out.env)
    have HF := Aside0.mk (And.intro hr hs')
    clear hk ha hr hs'
    by_cases h1 : Pure.upM a = [79, 78]
    · have HX := Aside0.mk (show Pure.onN (Pure.nb s.data.toList) = .got 1 r by rw [HXX.out, if_pos h1])
      rw [up_const ht h1] at HC
      clear h1 HXX
      go_wp2_with (fail)
      refine HC.out.mono ?_
      rintro e w2 ⟨rfl, hb2⟩
      have H3 := Aside0.mk (H2.out.below hb2)
      have HK3 := Aside0.mk (HK.out.trans (KB.of_below hb2))
      clear hb2
      go_wp2
      go_ret
      refine ⟨HK3.out, ?_⟩
      rw [HX.out]
      exact ⟨_, s', rfl, rfl, H3.out.a, HF.out.1, HF.out.2⟩
    · by_cases h2 : Pure.upM a = [79, 70, 70]
      · have HX := Aside0.mk (show Pure.onN (Pure.nb s.data.toList) = .got 0 r by rw [HXX.out, if_neg h1, if_pos h2])
        rw [up_const ht h2] at HC
        clear h1 h2 HXX
        go_wp2_with (fail)
        refine HC.out.mono ?_
        rintro e w2 ⟨rfl, hb2⟩
        have H3 := Aside0.mk (H2.out.below hb2)
        have HK3 := Aside0.mk (HK.out.trans (KB.of_below hb2))
        clear hb2
        go_wp2
        go_ret
        refine ⟨HK3.out, ?_⟩
        rw [HX.out]
        exact ⟨_, s', rfl, rfl, H3.out.a, HF.out.1, HF.out.2⟩
      · have HX := Aside0.mk (show Pure.onN (Pure.nb s.data.toList) = .bad 2 by rw [HXX.out, if_neg h1, if_neg h2])
        have n1 : ((upN t).toList == [79, 78]) = false := beq_eq_false_iff_ne.2 (fun q => h1 ((up_str ht).1 q))
        have n2 : ((upN t).toList == [79, 70, 70]) = false := beq_eq_false_iff_ne.2 (fun q => h2 ((up_str ht).1 q))
        clear h1 h2 HXX
        go_wp2_with (fail)
        refine HC.out.mono ?_
        rintro e w2 ⟨rfl, hb2⟩
        have H3 := Aside0.mk (H2.out.below hb2)
        have HK3 := Aside0.mk (HK.out.trans (KB.of_below hb2))
        clear hb2
        go_wp2
        refine ⟨rfl, HK3.out, ?_⟩
        rw [HX.out]
set_option maxHeartbeats 4000000 in
set_option maxRecDepth 100000 in
theorem beacon_calls (w0 : World) (g : Nat) (s : ByteArray) (hs : s.size ≤ 1000000) (w : World) (h0 : At0 w0 g s w) :
    Calls Tryz.prog 64 #[.pointer (some ⟨g, 0, none⟩)] w (RdP g s.size (fun a v _ => ∃ x : ByteArray, v = .tuple #[.int .i64 a.1, .string x] ∧ x.data.toList = a.2) (Pure.beaN (Pure.nb s.data.toList)) w) := by
  have H0 := Aside0.mk h0
  clear h0
  have HW := Aside0.mk (word_calls g s hs _ H0.out.a)
  cases hw : Pure.wordN (Pure.nb s.data.toList) with
  | bad k =>
    have HX := Aside0.mk (show Pure.beaN (Pure.nb s.data.toList) = .bad k by simp only [Pure.beaN, hw, Pure.Rd.bind])
    rw [hw] at HW
    clear hw
    go_enter Tryz.func64, Tryz.ntmps64
    go_wp2_with (fail)
    refine HW.out.mono ?_
    rintro e w1 ⟨hk, he⟩
    obtain rfl : e = wrongE k := he
    have HK := Aside0.mk hk
    clear hk
    go_wp2
    refine ⟨rfl, HK.out, ?_⟩
    rw [HX.out]
  | got a r =>
    have HXX := Aside0.mk (show Pure.upM a = [79, 70, 70] → Pure.beaN (Pure.nb s.data.toList) = .got (0, []) r from fun hc => by simp only [Pure.beaN, hw, Pure.Rd.bind, if_pos hc])
    have HX1 := Aside0.mk (show ¬ Pure.upM a = [79, 70, 70] → Pure.numM a 1 10000 = none → Pure.beaN (Pure.nb s.data.toList) = .bad 1 from fun hc hn => by simp only [Pure.beaN, hw, Pure.Rd.bind, if_neg hc, hn])
    have HX2 := Aside0.mk (show ¬ Pure.upM a = [79, 70, 70] → ∀ v, Pure.numM a 1 10000 = some v → Pure.beaN (Pure.nb s.data.toList) = (Pure.textN r).bind fun t q => .got (v, t) q from fun hc v hn => by simp only [Pure.beaN, hw, Pure.Rd.bind, if_neg hc, hn])
    rw [hw] at HW
    clear hw
    go_enter Tryz.func64, Tryz.ntmps64
    go_wp2_with (fail)
    refine HW.out.mono ?_
    rintro e w1 ⟨hk, v, s', rfl, ⟨t, rfl, ht, hts⟩, ha, hr, hs'⟩
    have H2 := Aside0.mk (H0.out.kb hk ha)
    have HK := Aside0.mk hk
    have HC := Aside0.mk (upper_calls t (by omega) w1 H2.out.env)
    have HF := Aside0.mk (And.intro hr hs')
    clear hk ha hr hs'
    by_cases h2 : Pure.upM a = [79, 70, 70]
    · have HX := Aside0.mk (HXX.out h2)
      rw [up_const ht h2] at HC
      clear h2 HXX HX1 HX2
      go_wp2_with (fail)
      refine HC.out.mono ?_
      rintro e w2 ⟨rfl, hb2⟩
      have H3 := Aside0.mk (H2.out.below hb2)
      have HK3 := Aside0.mk (HK.out.trans (KB.of_below hb2))
      clear hb2
      go_wp2
      go_ret2
      refine ⟨HK3.out, ?_⟩
      rw [HX.out]
      exact ⟨_, s', rfl, ⟨_, rfl, rfl⟩, H3.out.a, HF.out.1, HF.out.2⟩
    · have n2 : ((upN t).toList == [79, 70, 70]) = false := beq_eq_false_iff_ne.2 (fun q => h2 ((up_str ht).1 q))
      have HQ1 := Aside0.mk (HX1.out h2)
      have HQ2 := Aside0.mk (HX2.out h2)
      clear h2 HXX HX1 HX2
      go_wp2_with (fail)
      refine HC.out.mono ?_
      rintro e w2 ⟨rfl, hb2⟩
      have H3 := Aside0.mk (H2.out.below hb2)
      have HK3 := Aside0.mk (HK.out.trans (KB.of_below hb2))
      clear hb2
      have HN := Aside0.mk (numbered_calls t 1 10000 (by omega) w2 H3.out.env)
      rw [ht] at HN
      go_wp2_with (fail)
      refine (bounds_some 6 1 10000 rfl _).mono ?_
      rintro e w3 ⟨rfl, rfl⟩
      go_wp2_with (fail)
      refine HN.out.mono ?_
      rintro e w3 ⟨hb3, he⟩
      have H4 := Aside0.mk (H3.out.below hb3)
      have HK4 := Aside0.mk (HK3.out.trans (KB.of_below hb3))
      clear hb3
      cases hc : Pure.numM a 1 10000 with
      | none =>
        rw [hc] at he
        obtain rfl : e = wrongE 1 := he
        have HX := Aside0.mk (HQ1.out hc)
        clear hc HQ1 HQ2
        go_wp2
        refine ⟨rfl, HK4.out, ?_⟩
        rw [HX.out]
      | some c =>
        rw [hc] at he
        obtain rfl : e = .returned (encI c) := he
        have HX := Aside0.mk (HQ2.out c hc)
        clear hc HQ1 HQ2
        unfold encI
        have HT := Aside0.mk (text_calls g s' (by have := HF.out.2; omega) _ H4.out.a)
        rw [HF.out.1] at HT
        go_wp2_with (fail)
        refine HT.out.mono ?_
        rintro e w4 ⟨hk4, he⟩
        have HK5 := Aside0.mk (HK4.out.trans hk4)
        clear hk4
        cases ht5 : Pure.textN r with
        | bad k =>
          rw [ht5] at he
          obtain rfl : e = wrongE k := he
          have HY := Aside0.mk (show Pure.beaN (Pure.nb s.data.toList) = .bad k by rw [HX.out, ht5]; rfl)
          clear ht5
          go_wp2
          refine ⟨rfl, HK5.out, ?_⟩
          rw [HY.out]
        | got x q =>
          rw [ht5] at he
          obtain ⟨v, s5, rfl, ⟨y, rfl, hy, _⟩, ha5, hr5, hs5⟩ := he
          have HY := Aside0.mk (show Pure.beaN (Pure.nb s.data.toList) = .got (c, x) q by rw [HX.out, ht5]; rfl)
          clear ht5
          go_wp2
          go_ret2
          refine ⟨HK5.out, ?_⟩
          rw [HY.out]
          exact ⟨_, s5, rfl, ⟨y, rfl, hy⟩, ha5, hr5, by have := HF.out.2; omega⟩
end Go.Proofs.YtgaboenipiojoaaGreatDoor.QAll
end

section
/- cmd's reader: via, the digipeaters. -/
set_option linter.unusedVariables false
set_option linter.unusedSimpArgs false
namespace Go.Proofs.YtgaboenipiojoaaGreatDoor.QAll
open Go.RowKit Go.Proofs.YtgaboenipiojoaaGreatDoorW.PrintWords Go.Proofs.YtgaboenipiojoaaGreatDoorW.PrintLast Go.Proofs.YtgaboenipiojoaaGreatDoorW.PrintMore
theorem info29 : (Tryz.prog.info? 29).map (fun i => (i.zero, i.size, i.bytes)) = some (some (.agg #[(.string ⟨#[]⟩), (.int .i64 0)]), 2, 24) := by kernel_rfl
theorem fieldsGo_size : ∀ (l cur : List UInt8), ∀ x ∈ Pure.fieldsGo l cur, x.length ≤ l.length + cur.length
  | [], cur, x, hx => by
    unfold Pure.fieldsGo at hx
    split at hx
    · cases hx
    · obtain rfl := List.mem_singleton.1 hx
      omega
  | c :: l, cur, x, hx => by
    unfold Pure.fieldsGo at hx
    simp only [List.length_cons]
    split at hx
    · split at hx
      · have := fieldsGo_size l [] x hx
        simp only [List.length_nil] at this
        omega
      · rcases List.mem_cons.1 hx with rfl | h
        · omega
        · have := fieldsGo_size l [] x h
          simp only [List.length_nil] at this
          omega
    · have := fieldsGo_size l (cur ++ [c]) x hx
      rw [List.length_append, List.length_singleton] at this
      omega
theorem fields_sizes (s x : ByteArray) (h : x ∈ Lib.goFieldsP Pure.sepR s) : x.size ≤ s.size := by
  have h1 : x.data.toList ∈ Pure.fieldsB s.data.toList := by
    rw [← Pure.fields_bytes]
    exact List.mem_map.2 ⟨x, h, rfl⟩
  have h2 := fieldsGo_size _ _ _ h1
  simpa using h2
/-- The digipeaters in memory. -/
def viaP (w0 w : World) (a : List (ByteArray × Int)) (v : Value) (w' : World) : Prop :=
  ∃ l : List S29, a = l.map (fun x => (x.f0, x.f1)) ∧ Kd.R k29 29 w' w0.heap.size (fun k => w.heap.size ≤ k) v l
set_option maxHeartbeats 4000000 in
set_option maxRecDepth 100000 in
theorem via_calls (w0 : World) (g : Nat) (s : ByteArray) (hs : s.size ≤ 1000000) (w : World) (h0 : At0 w0 g s w) :
    Calls Tryz.prog 63 #[.pointer (some ⟨g, 0, none⟩)] w (RdP g s.size (viaP w0 w) (Pure.viaN (Pure.nb s.data.toList)) w) := by
  have H0 := Aside0.mk h0
  clear h0
  have hu29 := Tryz.underlying29
  have HW := Aside0.mk (word_calls g s hs _ H0.out.a)
  cases hw : Pure.wordN (Pure.nb s.data.toList) with
  | bad k =>
    have HX := Aside0.mk (show Pure.viaN (Pure.nb s.data.toList) = .bad k by simp only [Pure.viaN, hw, Pure.Rd.bind])
    rw [hw] at HW
    clear hw
    go_enter Tryz.func63, Tryz.ntmps63
    go_wp2_with (fail)
    refine HW.out.mono ?_
    rintro e w1 ⟨hk, he⟩
    obtain rfl : e = wrongE k := he
    have HK := Aside0.mk hk
    clear hk
    go_wp2
    refine ⟨rfl, HK.out, ?_⟩
    rw [HX.out]
  | got a r =>
    have HXX := Aside0.mk (show Pure.viaN (Pure.nb s.data.toList) = if Pure.begN [86, 73, 65] a = true then (if Pure.fieldsB r = [] then .bad 4 else Pure.viaGo (Pure.fieldsB r) 0 []) else .bad 2 by simp only [Pure.viaN, hw, Pure.Rd.bind])
    rw [hw] at HW
    clear hw
    go_enter Tryz.func63, Tryz.ntmps63
    go_wp2_with (fail)
    refine HW.out.mono ?_
    rintro e w1 ⟨hk, v, s', rfl, ⟨t, rfl, ht, hts⟩, ha, hr, hs'⟩
    have H2 := Aside0.mk (H0.out.kb hk ha)
    have HK := Aside0.mk hk
    have HC := Aside0.mk (begins_calls ⟨#[86, 73, 65]⟩ t (by omega) w1 H2.out.env)
    have HF := Aside0.mk (And.intro hr hs')
    rw [ht] at HC
    clear hk ha hr
    have HFB := Aside0.mk (show Pure.fieldsB r = (Lib.goFieldsP Pure.sepR s').map (·.data.toList) by rw [← HF.out.1, ← Pure.fields_nb, Pure.fields_bytes])
    cases hbg : Pure.begN [86, 73, 65] a with
    | false =>
      have HX := Aside0.mk (show Pure.viaN (Pure.nb s.data.toList) = .bad 2 by rw [HXX.out, hbg]; rfl)
      rw [show Pure.begN (⟨#[86, 73, 65]⟩ : ByteArray).data.toList a = false from hbg] at HC
      clear hbg HXX
      go_wp2_with (fail)
      refine HC.out.mono ?_
      rintro e w2 ⟨rfl, hb2⟩
      have HK3 := Aside0.mk (HK.out.trans (KB.of_below hb2))
      clear hb2
      go_wp2_with (fail)
      refine (must_bad 2 _).mono ?_
      rintro e w3 ⟨rfl, rfl⟩
      go_wp2
      refine ⟨rfl, HK3.out, ?_⟩
      rw [HX.out]
    | true =>
      have HX1 := Aside0.mk (show Pure.viaN (Pure.nb s.data.toList) = if Pure.fieldsB r = [] then .bad 4 else Pure.viaGo (Pure.fieldsB r) 0 [] by rw [HXX.out, hbg]; rfl)
      rw [show Pure.begN (⟨#[86, 73, 65]⟩ : ByteArray).data.toList a = true from hbg] at HC
      clear hbg HXX
      go_wp2_with (fail)
      refine HC.out.mono ?_
      rintro e w2 ⟨rfl, hb2⟩
      have H3 := Aside0.mk (H2.out.below hb2)
      have HK3 := Aside0.mk (HK.out.trans (KB.of_below hb2))
      clear hb2
      have HFF := Aside0.mk (Tryz.strings_FieldsFunc 93 #[] (enters_of Tryz.func93 (by kernel_rfl) rfl) Pure.sepR s' w2 (by omega) (fun W x hx _ => sep1_calls x hx W))
      obtain ⟨hc2, hf2⟩ := H3.out.a.cell
      go_wp2_with (fail)
      refine (must_ok 2 _).mono ?_
      rintro e w2' ⟨rfl, rfl⟩
      go_wp2_with (fail)
      refine HFF.out.mono ?_
      rintro e w3 ⟨A, rfl, hA, hown, hb3⟩
      have HSz := Aside0.mk (fun x hx => fields_sizes s' x hx)
      generalize Lib.goFieldsP Pure.sepR s' = ws at HFB HSz hown ⊢
      have H4 := Aside0.mk (H3.out.below hb3)
      have HK4 := Aside0.mk (HK3.out.trans (KB.of_below hb3))
      have hwz : w.heap.size ≤ w2'.heap.size := HK3.out.size
      have hgw : g < w.heap.size := H0.out.a.lt
      have HR3 := Aside0.mk (show Kd.R Kd.string 9 w3 w2'.heap.size (fun k => k = A) (.slice (some ⟨A, 0, none⟩) ws.length ws.length) ws from Kd.R_of_own (xs := ws) hown (fun k hk => by simpa [Value.ownBlock, eq_comm] using hk))
      clear hown hb3 HFF
      obtain ⟨hc3, hf3⟩ := H4.out.a.cell
      by_cases hn : ws = []
      · subst hn
        have HX := Aside0.mk (show Pure.viaN (Pure.nb s.data.toList) = .bad 4 by rw [HX1.out, HFB.out]; rfl)
        go_wp2_with (fail)
        refine (must_bad 4 _).mono ?_
        rintro e w5 ⟨rfl, rfl⟩
        go_wp2
        refine ⟨rfl, HK4.out.trans (KB.set g _ _), ?_⟩
        rw [HX.out]
      · have hn0 : 0 < ws.length := by
          cases ws with
          | nil => exact absurd rfl hn
          | cons => simp
        have HX := Aside0.mk (show Pure.viaN (Pure.nb s.data.toList) = Pure.viaGo (ws.map (·.data.toList)) 0 [] by
          rw [HX1.out, HFB.out, if_neg (by simpa using hn)])
        clear HX1 HFB hn
        go_wp2_with (fail)
        refine (must_ok 4 _).mono ?_
        rintro e w5 ⟨rfl, hw5⟩
        have H5 := Aside0.mk (show At0 w0 g ⟨#[]⟩ w5 by rw [hw5]; exact H4.out.kb (KB.set g _ _) (H4.out.a.set _))
        have HK5 := Aside0.mk (show KB g w w5 by rw [hw5]; exact HK4.out.trans (KB.set g _ _))
        have HV5 : Aside0 (Kd.V Kd.string 9 w5 0 (fun k => w.heap.size ≤ k ∧ k < w5.heap.size) (.slice (some ⟨A, 0, none⟩) ws.length ws.length) ws) := by
          refine ⟨?_⟩
          have hr := Kd.R_far HR3.out (p := ⟨g, 0, none⟩) (fun k hk => by have := hk; show k ≠ g; omega) (.string ⟨#[]⟩)
          rw [← hw5] at hr
          exact Kd.V_mono (Kd.R_V (Kd.R_bound hr)) (fun k hk => ⟨by have := hk.1; omega, hk.2.2.1⟩)
        clear hw5 H4 HK4 HR3 hc3 hf3 hc2 hf2
        obtain ⟨B, hB⟩ : ∃ B, w5.heap.size = B := ⟨_, rfl⟩
        rw [hB] at HV5
        have hwB : w.heap.size ≤ B := by rw [← hB]; exact HK5.out.size
        have HBs := Aside0.mk (show B ≤ w5.heap.size by omega)
        have HN : Aside0 (Kd.R k29 29 w5 w0.heap.size (fun k => B ≤ k) (.slice none 0 0) ([] : List S29)) := ⟨Kd.R_nil _ _ _ _ _⟩
        have hg0 : w0.heap.size ≤ g := H0.out.hg
        clear hB
        go_wp2_with (fail)
        go_loopw [3, 26] (fun v3 v26 wr => ∃ (i : Nat) (l : List S29), i ≤ ws.length ∧ l.length = i ∧ v26 = .int .i64 i ∧ Aside0 (Pure.viaN (Pure.nb s.data.toList) = Pure.viaGo ((ws.drop i).map (·.data.toList)) i (l.map (fun x => (x.f0, x.f1)))) ∧ Aside0 (Kd.R k29 29 wr w0.heap.size (fun k => B ≤ k) v3 l) ∧ Aside0 (At0 w0 g ⟨#[]⟩ wr) ∧ Aside0 (KB g w wr) ∧ Aside0 (Kd.V Kd.string 9 wr 0 (fun k => w.heap.size ≤ k ∧ k < B) (.slice (some ⟨A, 0, none⟩) ws.length ws.length) ws) ∧ Aside0 (B ≤ wr.heap.size)) (fun _ v26 _ => ws.length - (intOf v26).toNat)
        case atStart => exact ⟨0, [], by omega, rfl, rfl, HX, HN, H5, HK5, HV5, HBs⟩
        case round =>
          clear HX HN H5 HK5 HV5 HBs
          obtain ⟨i, l, hi, hli, rfl, HX, HR1, HQr, HKr, HVr, HBr⟩ := hrel
          by_cases hlt : i < ws.length
          · obtain ⟨hn1, hn2, hcj⟩ := Kd.V_reads' HVr.out
            obtain ⟨ad', hA', hx⟩ := Kd.at_string hcj (i : Int) (by omega) (by omega)
            obtain rfl := Option.some.inj hA'
            rw [Int.toNat_natCast, show rdOf ByteArray.empty ws (i : Int) = ws[i]'hlt by (unfold rdOf; rw [Int.toNat_natCast, List.getD_eq_getElem?_getD, List.getElem?_eq_getElem hlt]; rfl)] at hx
            have hsi : (ws[i]'hlt).size ≤ s'.size := HSz.out _ (List.getElem_mem hlt)
            have hdr : ws.drop i = ws[i]'hlt :: ws.drop (i + 1) := List.drop_eq_getElem_cons hlt
            have HD := Aside0.mk hdr
            clear hn1 hn2 hcj hdr
            generalize ws[i]'hlt = x at hx hsi HD ⊢
            have hx2 : wr.cell? ⟨A, i, none⟩ = some (.string x) := by
              by_cases i0 : i = 0
              · subst i0; simpa [Addr.add] using hx
              · simpa [Addr.add, i0] using hx
            clear hx
            have HCA := Aside0.mk (called_calls x (by omega) wr HQr.out.env)
            go_wp2_with (fail)
            refine HCA.out.mono ?_
            rintro e w7 ⟨hb7, he⟩
            cases hc : Pure.callM x.data.toList with
            | none =>
              rw [hc] at he
              obtain rfl : e = wrongE 12 := he
              have HZ := Aside0.mk (show Pure.viaN (Pure.nb s.data.toList) = .bad 12 by rw [HX.out, HD.out, List.map_cons]; unfold Pure.viaGo; rw [hc])
              have HK7 := Aside0.mk (HKr.out.trans (KB.of_below hb7))
              clear hc hb7
              go_wp2
              refine ⟨rfl, HK7.out, ?_⟩
              rw [HZ.out]
            | some c =>
              rw [hc] at he
              obtain rfl : e = .returned (encC c) := he
              unfold encC
              have hb8 : Below wr.heap.size wr (w7.alloc (.cells #[.string c.1, .int .i64 c.2] 29 (0, 0))) := hb7.alloc hb7.size _
              have HQ8 := Aside0.mk (HQr.out.below hb8)
              have HK8 := Aside0.mk (HKr.out.trans (KB.of_below hb8))
              have HR8 := Aside0.mk (Kd.R_below HR1.out hb8)
              have HV8 := Aside0.mk (Kd.V_below HVr.out hb8)
              have HB8 := Aside0.mk (Nat.le_trans HBr.out hb8.size)
              have HG8 := Aside0.mk (heap_alloc_new w7 (.cells #[.string c.1, .int .i64 c.2] 29 (0, 0)))
              have HS := Aside0.mk (show Pure.viaN (Pure.nb s.data.toList) = if i < 8 then Pure.viaGo ((ws.drop (i + 1)).map (·.data.toList)) (i + 1) (l.map (fun x => (x.f0, x.f1)) ++ [c]) else .bad 11 by
                rw [HX.out, HD.out, List.map_cons]
                conv => lhs; unfold Pure.viaGo
                rw [hc])
              clear hc HX HD HQr HKr HR1 HVr HBr hx2 HCA
              by_cases h8 : i < 8
              · have h8' : (i : Int) < 8 := by omega
                have HZ := Aside0.mk (show Pure.viaN (Pure.nb s.data.toList) = Pure.viaGo ((ws.drop (i + 1)).map (·.data.toList)) (i + 1) ((l ++ [(⟨c.1, c.2⟩ : S29)]).map (fun x => (x.f0, x.f1))) by
                  rw [HS.out, if_pos h8, List.map_append]
                  rfl)
                clear HS
                go_wp2_with (fail)
                refine (must_ok 11 _).mono ?_
                rintro e w8 ⟨rfl, hw8⟩
                rw [← hw8] at HQ8 HK8 HR8 HV8 HB8 HG8
                clear hw8 hb8 hb7
                obtain ⟨j0, j1, _, _⟩ := two_cell HG8.out
                have hbs : w0.heap.size ≤ B := by omega
                go_wp2_with (go_loud (at_builtin; refine Kd.R_append k29 (w0 := w0) w0.heap.size rfl (.tmp 36) (.tmp 38) 30 29 (.agg #[(.string ⟨#[]⟩), (.int .i64 0)]) 24 rfl Tryz.underlying30 info29 rfl (by decide) (by omega) _ l (⟨c.1, c.2⟩ : S29) [.string c.1, .int .i64 c.2] (fun k => B ≤ k) (fun _ => False) rfl rfl (k29_mkM _ _ _ _) (fun _ hk => hk.elim) (fun k hk => Nat.le_trans HB8.out hk) HR8.out HQ8.out.b HQ8.out.b.size (by rw [hli]; omega) ?_; intro v1 wd ho hbd hgd hat))
                go_roundw
                case rel =>
                  have hgw8 : g < w8.heap.size := HQ8.out.a.lt
                  have hKd : KB g w wd := ⟨hbd.os.trans H0.out.b.os.symm, hbd.tape.trans H0.out.b.tape.symm, hbd.output.trans H0.out.b.output.symm, Nat.le_trans HK8.out.size hgd.size, fun k hk hkg => (hgd.block k (Nat.lt_of_lt_of_le hk HK8.out.size) (fun e => by have := HR8.out.1 _ e.symm; omega)).trans (HK8.out.block k hk hkg)⟩
                  have hAd : AtG g ⟨#[]⟩ wd := (hgd.block g (HQ8.out.a.lt) (fun e => by have := HR8.out.1 _ e.symm; omega)).trans HQ8.out.a
                  exact ⟨i + 1, l ++ [(⟨c.1, c.2⟩ : S29)], by omega, by rw [List.length_append, hli]; rfl, by go_num, HZ, ⟨ho⟩, ⟨⟨HQ8.out.E, hbd, HQ8.out.hg, hAd⟩⟩, ⟨hKd⟩, ⟨Kd.V_grown HV8.out hgd (fun k hk e => by have := HR8.out.1 _ e.symm; have := hk.2; omega)⟩, ⟨Nat.le_trans HB8.out hgd.size⟩⟩
                case measure => simp [intOf]; omega
              · have h8' : ¬ (i : Int) < 8 := by omega
                have HZ := Aside0.mk (show Pure.viaN (Pure.nb s.data.toList) = .bad 11 by rw [HS.out, if_neg h8])
                clear HS
                go_wp2_with (fail)
                rw [show decide ((i : Int) < 8) = false by simpa using h8']
                refine (must_bad 11 _).mono ?_
                rintro e w8 ⟨rfl, rfl⟩
                go_wp2
                refine ⟨rfl, HK8.out, ?_⟩
                rw [HZ.out]
          · obtain rfl : i = ws.length := by omega
            have HZ := Aside0.mk (show Pure.viaN (Pure.nb s.data.toList) = .got (l.map (fun x => (x.f0, x.f1))) [] by rw [HX.out, List.drop_length]; rfl)
            go_wp2
            go_ret
            refine ⟨HKr.out, ?_⟩
            rw [HZ.out]
            exact ⟨_, ⟨#[]⟩, rfl, ⟨l, rfl, Kd.R_mono HR1.out (fun k hk => by have : B ≤ k := hk; omega)⟩, HQr.out.a, rfl, Nat.zero_le _⟩
end Go.Proofs.YtgaboenipiojoaaGreatDoor.QAll
end

section
/- cmd's reader: read. -/
set_option linter.unusedVariables false
set_option linter.unusedSimpArgs false
namespace Go.Proofs.YtgaboenipiojoaaGreatDoor.QAll
open Go.RowKit Go.Proofs.YtgaboenipiojoaaGreatDoorW.PrintWords Go.Proofs.YtgaboenipiojoaaGreatDoorW.PrintLast Go.Proofs.YtgaboenipiojoaaGreatDoorW.PrintMore
def cmdC (k n : Int) (b : ByteArray) (ssid : Int) (via : Value) (tx : ByteArray) : Array Value := #[.int .i64 k, .int .i64 n, .string b, .int .i64 ssid, via, .string tx]
/-- A command in memory. -/
def cmdP (w0 w : World) (a : Pure.CmdM) (v : Value) (w' : World) : Prop :=
  ∃ (l : List S29) (tx : ByteArray) (via : Value), v = .agg (cmdC a.k a.n a.dst.1 a.dst.2 via tx) ∧ tx.data.toList = a.text ∧ a.via = l.map (fun x => (x.f0, x.f1)) ∧ Kd.R k29 29 w' w0.heap.size (fun k => w.heap.size ≤ k) via l
theorem cells6 {w : World} {g : Nat} {a b c d e f : Value} {t : TypeId} (h : w.heap[g]? = some (.cells #[a, b, c, d, e, f] t (0, 0))) :
    (w.cell? ⟨g, 0, none⟩ = some a ∧ w.cell? ⟨g, 1, none⟩ = some b ∧ w.cell? ⟨g, 2, none⟩ = some c ∧ w.cell? ⟨g, 3, none⟩ = some d ∧ w.cell? ⟨g, 4, none⟩ = some e ∧ w.cell? ⟨g, 5, none⟩ = some f) ∧
    (w.frozen? ⟨g, 0, none⟩ = false ∧ w.frozen? ⟨g, 1, none⟩ = false ∧ w.frozen? ⟨g, 2, none⟩ = false ∧ w.frozen? ⟨g, 3, none⟩ = false ∧ w.frozen? ⟨g, 4, none⟩ = false ∧ w.frozen? ⟨g, 5, none⟩ = false) := by
  simp [World.cell?, World.frozen?, h]
theorem six_set {w : World} {g : Nat} {a b c d e f a' b' c' d' e' f' : Value} {t : TypeId} (h : w.heap[g]? = some (.cells #[a, b, c, d, e, f] t (0, 0))) :
    ((((((w.setCell ⟨g, 0, none⟩ a').setCell ⟨g, 1, none⟩ b').setCell ⟨g, 2, none⟩ c').setCell ⟨g, 3, none⟩ d').setCell ⟨g, 4, none⟩ e').setCell ⟨g, 5, none⟩ f').heap[g]? = some (.cells #[a', b', c', d', e', f'] t (0, 0)) := by
  simp [World.setCell, Array.getElem?_modify, h]
theorem six_below (w : World) (g : Nat) (a' b' c' d' e' f' : Value) :
    Below g w ((((((w.setCell ⟨g, 0, none⟩ a').setCell ⟨g, 1, none⟩ b').setCell ⟨g, 2, none⟩ c').setCell ⟨g, 3, none⟩ d').setCell ⟨g, 4, none⟩ e').setCell ⟨g, 5, none⟩ f') :=
  ((((((Below.refl g w).setCell (p := ⟨g, 0, none⟩) (Nat.le_refl _) a').setCell (p := ⟨g, 1, none⟩) (Nat.le_refl _) b').setCell (p := ⟨g, 2, none⟩) (Nat.le_refl _) c').setCell (p := ⟨g, 3, none⟩) (Nat.le_refl _) d').setCell (p := ⟨g, 4, none⟩) (Nat.le_refl _) e').setCell (p := ⟨g, 5, none⟩) (Nat.le_refl _) f'
theorem six_far (w : World) (g : Nat) (a' b' c' d' e' f' : Value) (k : Nat) (hk : k ≠ g) :
    ((((((w.setCell ⟨g, 0, none⟩ a').setCell ⟨g, 1, none⟩ b').setCell ⟨g, 2, none⟩ c').setCell ⟨g, 3, none⟩ d').setCell ⟨g, 4, none⟩ e').setCell ⟨g, 5, none⟩ f').heap[k]? = w.heap[k]? := by
  rw [Below.heap_setCell _ _ _ _ (show k ≠ g from hk), Below.heap_setCell _ _ _ _ (show k ≠ g from hk), Below.heap_setCell _ _ _ _ (show k ≠ g from hk), Below.heap_setCell _ _ _ _ (show k ≠ g from hk), Below.heap_setCell _ _ _ _ (show k ≠ g from hk), Below.heap_setCell _ _ _ _ (show k ≠ g from hk)]
theorem bnd_at {k lo hi lo0 hi0 : Int} {bb : Bool} (h0 : Pure.bndN k = some (lo0, hi0)) (h : (Pure.bndN k = some (lo, hi) ∧ bb = true) ∨ (Pure.bndN k = none ∧ bb = false)) : lo = lo0 ∧ hi = hi0 ∧ bb = true := by
  rw [h0] at h
  rcases h with ⟨h, hb⟩ | ⟨h, _⟩
  · injection h with z
    injection z with z1 z2
    exact ⟨z1.symm, z2.symm, hb⟩
  · cases h
def zCmd : Array Value := #[.int .i64 0, .int .i64 0, .string ⟨#[]⟩, .int .i64 0, .slice none 0 0, .string ⟨#[]⟩]
set_option maxHeartbeats 4000000 in
set_option maxRecDepth 100000 in
theorem read_calls (w0 : World) (g : Nat) (s : ByteArray) (hs : s.size ≤ 1000000) (w : World) (h0 : At0 w0 g s w) :
    Calls Tryz.prog 34 #[.pointer (some ⟨g, 0, none⟩)] w (RdP g s.size (cmdP w0 w) (Pure.readN (Pure.nb s.data.toList)) w) := by
  have H0 := Aside0.mk h0
  clear h0
  have hu32 := Tryz.underlying32
  have hb0 := (Below.refl w.heap.size w).alloc (Nat.le_refl _) (.cells zCmd 32)
  have H1 := Aside0.mk (H0.out.below hb0)
  have HK1 := Aside0.mk (KB.of_below (g := g) hb0)
  have hgl := H0.out.a.lt
  clear hb0
  have HM := Aside0.mk (more_calls g s hs _ H1.out.a)
  by_cases hm : Pure.nb s.data.toList = []
  · have HX := Aside0.mk (show Pure.readN (Pure.nb s.data.toList) = .bad 7 by unfold Pure.readN; rw [if_pos hm])
    rw [show moreB s = false by unfold moreB; rw [hm]; rfl] at HM
    clear hm
    go_enter Tryz.func34, Tryz.ntmps34
    go_wp2_with (fail)
    refine HM.out.mono ?_
    rintro e w1 ⟨rfl, q, rfl⟩
    go_wp2_with (fail)
    refine (must_bad 7 _).mono ?_
    rintro e w1 ⟨rfl, rfl⟩
    go_wp2
    refine ⟨rfl, HK1.out.drewN q, ?_⟩
    rw [HX.out]
  · have HXX := Aside0.mk (show Pure.readN (Pure.nb s.data.toList) = (Pure.bodyN (Pure.kindN (Pure.wd (Pure.nb s.data.toList))) (Pure.rs (Pure.nb s.data.toList))).bind fun c q => if q = [] then .got c q else .bad 5 by
      unfold Pure.readN Pure.wordN
      rw [if_neg hm, if_neg hm]
      rfl)
    have HWE := Aside0.mk (show Pure.wordN (Pure.nb s.data.toList) = .got (Pure.wd (Pure.nb s.data.toList)) (Pure.rs (Pure.nb s.data.toList)) by unfold Pure.wordN; rw [if_neg hm])
    rw [show moreB s = true by unfold moreB; simpa using hm] at HM
    clear hm
    go_enter Tryz.func34, Tryz.ntmps34
    go_wp2_with (fail)
    refine HM.out.mono ?_
    rintro e w1 ⟨rfl, q, hw1⟩
    have H2 := Aside0.mk (show At0 w0 g s w1 by rw [hw1]; exact H1.out.below (pw_below_drewN (Below.refl _ _) q))
    have HK2 := Aside0.mk (show KB g w w1 by rw [hw1]; exact HK1.out.drewN q)
    have HC2 := Aside0.mk (show w1.heap[w.heap.size]? = some (.cells zCmd 32 (0, 0)) by rw [hw1]; exact heap_alloc_new w _)
    clear hw1 HK1
    go_wp2_with (fail)
    refine (must_ok 7 _).mono ?_
    rintro e w1' ⟨rfl, rfl⟩
    have HW := Aside0.mk (word_calls g s hs _ H2.out.a)
    rw [HWE.out] at HW
    clear HWE HM
    generalize Pure.wd (Pure.nb s.data.toList) = a at HXX HW
    generalize Pure.rs (Pure.nb s.data.toList) = r at HXX HW
    go_wp2_with (fail)
    refine HW.out.mono ?_
    rintro e w2 ⟨hk, v, s', rfl, ⟨t, rfl, ht, hts⟩, ha, hr, hs'⟩
    have H3 := Aside0.mk (H2.out.kb hk ha)
    have HK3 := Aside0.mk (HK2.out.trans hk)
    have HC3 := Aside0.mk (show w2.heap[w.heap.size]? = some (.cells zCmd 32 (0, 0)) by rw [hk.block _ (blk_lt HC2.out) (by omega)]; exact HC2.out)
    have HF := Aside0.mk (And.intro hr hs')
    have HKI := Aside0.mk (kindOf_calls t (by omega) w2 H3.out.env)
    rw [ht] at HKI
    clear hk ha hr hs' ht hts HC2 HK2 H2 HW
    go_wp2_with (fail)
    refine HKI.out.mono ?_
    rintro e w3 ⟨rfl, hb3⟩
    have H4 := Aside0.mk (H3.out.below hb3)
    have HK4 := Aside0.mk (HK3.out.trans (KB.of_below hb3))
    have HC4 := Aside0.mk ((hb3.block _ (blk_lt HC3.out)).trans HC3.out)
    clear hb3 HC3 HK3 H3 HKI
    generalize Pure.kindN a = k at HXX ⊢
    obtain ⟨⟨c0, c1, c2, c3, c4, c5⟩, f0, f1, f2, f3, f4, f5⟩ := cells6 HC4.out
    go_wp2_with (fail)
    obtain ⟨lo, hi, bb, hbn, hbo⟩ : ∃ lo hi bb, ((Pure.bndN k = some (lo, hi) ∧ bb = true) ∨ (Pure.bndN k = none ∧ bb = false)) ∧ ∀ W, Calls Tryz.prog 61 #[.int .i64 k] W fun e w' => e = .returned (.tuple #[.int .i64 lo, .int .i64 hi, .bool bb]) ∧ w' = W := by
      cases hb : Pure.bndN k with
      | none => exact ⟨0, 0, false, Or.inr ⟨rfl, rfl⟩, fun W => bounds_none k hb W⟩
      | some p => exact ⟨p.1, p.2, true, Or.inl ⟨rfl, rfl⟩, fun W => bounds_some k p.1 p.2 hb W⟩
    refine (hbo _).mono ?_
    rintro e w4 ⟨rfl, hw4⟩
    have HB5 := (Below.refl w.heap.size w3).setCell (p := ⟨w.heap.size, 0, none⟩) (Nat.le_refl _) (.int .i64 k)
    have HK5 := Aside0.mk (show KB g w w4 by
      rw [hw4]
      exact ⟨HB5.os.trans HK4.out.os, HB5.tape.trans HK4.out.tape, HB5.output.trans HK4.out.output, Nat.le_trans HK4.out.size HB5.size, fun k hk hg => (HB5.block k hk).trans (HK4.out.block k hk hg)⟩)
    have H5 := Aside0.mk (show At0 w0 g s' w4 from H0.out.kb HK5.out (by rw [hw4]; exact (HB5.block g hgl).trans H4.out.a))
    have HC5 := Aside0.mk (show w4.heap[w.heap.size]? = some (.cells #[.int .i64 k, .int .i64 0, .string ⟨#[]⟩, .int .i64 0, .slice none 0 0, .string ⟨#[]⟩] 32 (0, 0)) by
      rw [hw4]
      have z := HC4.out
      unfold zCmd at z
      simp [World.setCell, Array.getElem?_modify, z])
    clear hw4 HB5 H4 HK4 HC4 c0 c1 c2 c3 c4 c5 f0 f1 f2 f3 f4 f5 hbo
    obtain ⟨⟨c0, c1, c2, c3, c4, c5⟩, f0, f1, f2, f3, f4, f5⟩ := cells6 HC5.out
    go_upto_block 0 with (fail)
    go_cut [] from 20 to 78 (fun wx => ∃ c q s5, Aside0 (Pure.bodyN k r = .got c q) ∧ Aside0 (At0 w0 g s5 wx) ∧ Aside0 (KB g w wx) ∧ Aside0 (Pure.nb s5.data.toList = q ∧ s5.size ≤ s.size) ∧ Aside0 (∃ (l : List S29) (tx : ByteArray) (via : Value), wx.heap[w.heap.size]? = some (.cells (cmdC c.k c.n c.dst.1 c.dst.2 via tx) 32 (0, 0)) ∧ tx.data.toList = c.text ∧ c.via = l.map (fun x => (x.f0, x.f1)) ∧ Kd.R k29 29 wx w0.heap.size (fun k => w.heap.size < k) via l))
    case first =>
      by_cases k0 : k = 0
      · have HX := Aside0.mk (show Pure.readN (Pure.nb s.data.toList) = .bad 2 by rw [HXX.out, k0]; rfl)
        subst k0
        go_wp2
        refine ⟨rfl, HK5.out, ?_⟩
        rw [HX.out]
      · by_cases k13 : k = 13
        · obtain rfl := k13
          have HT := Aside0.mk (text_calls g s' (by have := HF.out.2; omega) _ H5.out.a)
          rw [HF.out.1] at HT
          go_wp2_with (fail)
          refine HT.out.mono ?_
          rintro e w5 ⟨hk5, he⟩
          have HK6 := Aside0.mk (HK5.out.trans hk5)
          have hc5 := (hk5.block _ (blk_lt HC5.out) (by omega)).trans HC5.out
          cases hv : Pure.textN r with
          | bad j =>
            rw [hv] at he
            obtain rfl : e = wrongE j := he
            have HX := Aside0.mk (show Pure.readN (Pure.nb s.data.toList) = .bad j by rw [HXX.out]; show (Pure.Rd.bind (Pure.Rd.bind (Pure.textN r) _) _) = _; rw [hv]; rfl)
            clear hv hk5 hc5
            go_wp2
            refine ⟨rfl, HK6.out, ?_⟩
            rw [HX.out]
          | got x q =>
            rw [hv] at he
            obtain ⟨v, s5, rfl, ⟨y, rfl, hy, _⟩, ha5, hr5, hs5⟩ := he
            have HBo := Aside0.mk (show Pure.bodyN 13 r = .got { Pure.cmd0 13 with text := x } q by show (Pure.Rd.bind (Pure.textN r) _) = _; rw [hv]; rfl)
            have H6 := Aside0.mk (H5.out.kb hk5 ha5)
            have HC6 := Aside0.mk hc5
            have HQ := Aside0.mk (And.intro hr5 (show s5.size ≤ s.size by have := HF.out.2; omega))
            have HY := Aside0.mk hy
            clear hv hk5 hc5 hr5 hs5 ha5 hy c0 c1 c2 c3 c4 c5 f0 f1 f2 f3 f4 f5
            obtain ⟨⟨c0, c1, c2, c3, c4, c5⟩, f0, f1, f2, f3, f4, f5⟩ := cells6 HC6.out
            go_wp2_with (fail)
            go_meet
            have hb := (Below.refl w.heap.size w5).setCell (p := ⟨w.heap.size, 5, none⟩) (Nat.le_refl _) (.string y)
            have hKK : KB g w (w5.setCell ⟨w.heap.size, 5, none⟩ (.string y)) := ⟨hb.os.trans HK6.out.os, hb.tape.trans HK6.out.tape, hb.output.trans HK6.out.output, Nat.le_trans HK6.out.size hb.size, fun k hk hg => (hb.block k hk).trans (HK6.out.block k hk hg)⟩
            have hz := HC6.out
            exact ⟨_, _, s5, HBo, ⟨H0.out.kb hKK ((hb.block g hgl).trans H6.out.a)⟩, ⟨hKK⟩, HQ, ⟨[], y, .slice none 0 0, by simp [World.setCell, Array.getElem?_modify, hz, cmdC, Pure.cmd0], HY.out, rfl, Kd.R_nil _ _ _ _ _⟩⟩
        · by_cases k15 : k = 15
          · obtain rfl := k15
            have HT := Aside0.mk (onOff_calls w0 g s' (by have := HF.out.2; omega) _ H5.out)
            rw [HF.out.1] at HT
            go_wp2_with (fail)
            refine HT.out.mono ?_
            rintro e w5 ⟨hk5, he⟩
            have HK6 := Aside0.mk (HK5.out.trans hk5)
            have hc5 := (hk5.block _ (blk_lt HC5.out) (by omega)).trans HC5.out
            cases hv : Pure.onN r with
            | bad j =>
              rw [hv] at he
              obtain rfl : e = wrongE j := he
              have HX := Aside0.mk (show Pure.readN (Pure.nb s.data.toList) = .bad j by rw [HXX.out]; show (Pure.Rd.bind (Pure.Rd.bind (Pure.onN r) _) _) = _; rw [hv]; rfl)
              clear hv hk5 hc5
              go_wp2
              refine ⟨rfl, HK6.out, ?_⟩
              rw [HX.out]
            | got x q =>
              rw [hv] at he
              obtain ⟨v, s5, rfl, rfl, ha5, hr5, hs5⟩ := he
              have HBo := Aside0.mk (show Pure.bodyN 15 r = .got { Pure.cmd0 15 with n := x } q by show (Pure.Rd.bind (Pure.onN r) _) = _; rw [hv]; rfl)
              have H6 := Aside0.mk (H5.out.kb hk5 ha5)
              have HC6 := Aside0.mk hc5
              have HQ := Aside0.mk (And.intro hr5 (show s5.size ≤ s.size by have := HF.out.2; omega))
              clear hv hk5 hc5 hr5 hs5 ha5 c0 c1 c2 c3 c4 c5 f0 f1 f2 f3 f4 f5
              unfold encI
              obtain ⟨⟨c0, c1, c2, c3, c4, c5⟩, f0, f1, f2, f3, f4, f5⟩ := cells6 HC6.out
              go_wp2_with (fail)
              go_meet
              have hb := ((Below.refl w.heap.size w5).setCell (p := ⟨w.heap.size, 1, none⟩) (Nat.le_refl _) (.int .i64 x))
              have hKK : KB g w (w5.setCell ⟨w.heap.size, 1, none⟩ (.int .i64 x)) := ⟨hb.os.trans HK6.out.os, hb.tape.trans HK6.out.tape, hb.output.trans HK6.out.output, Nat.le_trans HK6.out.size hb.size, fun k hk hg => (hb.block k hk).trans (HK6.out.block k hk hg)⟩
              have hz := HC6.out
              exact ⟨_, _, s5, HBo, ⟨H0.out.kb hKK ((hb.block g hgl).trans H6.out.a)⟩, ⟨hKK⟩, HQ, ⟨[], ⟨#[]⟩, .slice none 0 0, by simp [World.setCell, Array.getElem?_modify, hz, cmdC, Pure.cmd0], rfl, rfl, Kd.R_nil _ _ _ _ _⟩⟩
          · by_cases k17 : k = 17
            · obtain rfl := k17
              have HT := Aside0.mk (onOff_calls w0 g s' (by have := HF.out.2; omega) _ H5.out)
              rw [HF.out.1] at HT
              go_wp2_with (fail)
              refine HT.out.mono ?_
              rintro e w5 ⟨hk5, he⟩
              have HK6 := Aside0.mk (HK5.out.trans hk5)
              have hc5 := (hk5.block _ (blk_lt HC5.out) (by omega)).trans HC5.out
              cases hv : Pure.onN r with
              | bad j =>
                rw [hv] at he
                obtain rfl : e = wrongE j := he
                have HX := Aside0.mk (show Pure.readN (Pure.nb s.data.toList) = .bad j by rw [HXX.out]; show (Pure.Rd.bind (Pure.Rd.bind (Pure.onN r) _) _) = _; rw [hv]; rfl)
                clear hv hk5 hc5
                go_wp2
                refine ⟨rfl, HK6.out, ?_⟩
                rw [HX.out]
              | got x q =>
                rw [hv] at he
                obtain ⟨v, s5, rfl, rfl, ha5, hr5, hs5⟩ := he
                have HBo := Aside0.mk (show Pure.bodyN 17 r = .got { Pure.cmd0 17 with n := x } q by show (Pure.Rd.bind (Pure.onN r) _) = _; rw [hv]; rfl)
                have H6 := Aside0.mk (H5.out.kb hk5 ha5)
                have HC6 := Aside0.mk hc5
                have HQ := Aside0.mk (And.intro hr5 (show s5.size ≤ s.size by have := HF.out.2; omega))
                clear hv hk5 hc5 hr5 hs5 ha5 c0 c1 c2 c3 c4 c5 f0 f1 f2 f3 f4 f5
                unfold encI
                obtain ⟨⟨c0, c1, c2, c3, c4, c5⟩, f0, f1, f2, f3, f4, f5⟩ := cells6 HC6.out
                go_wp2_with (fail)
                go_meet
                have hb := ((Below.refl w.heap.size w5).setCell (p := ⟨w.heap.size, 1, none⟩) (Nat.le_refl _) (.int .i64 x))
                have hKK : KB g w (w5.setCell ⟨w.heap.size, 1, none⟩ (.int .i64 x)) := ⟨hb.os.trans HK6.out.os, hb.tape.trans HK6.out.tape, hb.output.trans HK6.out.output, Nat.le_trans HK6.out.size hb.size, fun k hk hg => (hb.block k hk).trans (HK6.out.block k hk hg)⟩
                have hz := HC6.out
                exact ⟨_, _, s5, HBo, ⟨H0.out.kb hKK ((hb.block g hgl).trans H6.out.a)⟩, ⟨hKK⟩, HQ, ⟨[], ⟨#[]⟩, .slice none 0 0, by simp [World.setCell, Array.getElem?_modify, hz, cmdC, Pure.cmd0], rfl, rfl, Kd.R_nil _ _ _ _ _⟩⟩
            · by_cases k6 : k = 6
              · obtain rfl := k6
                have HT := Aside0.mk (beacon_calls w0 g s' (by have := HF.out.2; omega) _ H5.out)
                rw [HF.out.1] at HT
                go_wp2_with (fail)
                refine HT.out.mono ?_
                rintro e w5 ⟨hk5, he⟩
                have HK6 := Aside0.mk (HK5.out.trans hk5)
                have hc5 := (hk5.block _ (blk_lt HC5.out) (by omega)).trans HC5.out
                cases hv : Pure.beaN r with
                | bad j =>
                  rw [hv] at he
                  obtain rfl : e = wrongE j := he
                  have HX := Aside0.mk (show Pure.readN (Pure.nb s.data.toList) = .bad j by rw [HXX.out]; show (Pure.Rd.bind (Pure.Rd.bind (Pure.beaN r) _) _) = _; rw [hv]; rfl)
                  clear hv hk5 hc5
                  go_wp2
                  refine ⟨rfl, HK6.out, ?_⟩
                  rw [HX.out]
                | got x q =>
                  rw [hv] at he
                  obtain ⟨v, s5, rfl, ⟨y, rfl, hy⟩, ha5, hr5, hs5⟩ := he
                  have HBo := Aside0.mk (show Pure.bodyN 6 r = .got { Pure.cmd0 6 with n := x.1, text := x.2 } q by show (Pure.Rd.bind (Pure.beaN r) _) = _; rw [hv]; rfl)
                  have H6 := Aside0.mk (H5.out.kb hk5 ha5)
                  have HC6 := Aside0.mk hc5
                  have HQ := Aside0.mk (And.intro hr5 (show s5.size ≤ s.size by have := HF.out.2; omega))
                  have HY := Aside0.mk hy
                  clear hv hk5 hc5 hr5 hs5 ha5 hy c0 c1 c2 c3 c4 c5 f0 f1 f2 f3 f4 f5
                  obtain ⟨⟨c0, c1, c2, c3, c4, c5⟩, f0, f1, f2, f3, f4, f5⟩ := cells6 HC6.out
                  go_wp2_with (fail)
                  go_meet
                  have hb := (((Below.refl w.heap.size w5).setCell (p := ⟨w.heap.size, 1, none⟩) (Nat.le_refl _) (.int .i64 x.1)).setCell (p := ⟨w.heap.size, 5, none⟩) (Nat.le_refl _) (.string y))
                  have hKK : KB g w ((w5.setCell ⟨w.heap.size, 1, none⟩ (.int .i64 x.1)).setCell ⟨w.heap.size, 5, none⟩ (.string y)) := ⟨hb.os.trans HK6.out.os, hb.tape.trans HK6.out.tape, hb.output.trans HK6.out.output, Nat.le_trans HK6.out.size hb.size, fun k hk hg => (hb.block k hk).trans (HK6.out.block k hk hg)⟩
                  have hz := HC6.out
                  exact ⟨_, _, s5, HBo, ⟨H0.out.kb hKK ((hb.block g hgl).trans H6.out.a)⟩, ⟨hKK⟩, HQ, ⟨[], y, .slice none 0 0, by simp [World.setCell, Array.getElem?_modify, hz, cmdC, Pure.cmd0], HY.out, rfl, Kd.R_nil _ _ _ _ _⟩⟩
              · by_cases k9 : k = 9
                · obtain rfl := k9
                  obtain ⟨rfl, rfl, rfl⟩ := bnd_at (lo0 := 16) (hi0 := 256) rfl hbn
                  have HT := Aside0.mk (number_calls w0 g s' 16 256 (by have := HF.out.2; omega) _ H5.out)
                  rw [HF.out.1] at HT
                  go_wp2_with (fail)
                  refine HT.out.mono ?_
                  rintro e w5 ⟨hk5, he⟩
                  have HK6 := Aside0.mk (HK5.out.trans hk5)
                  have hc5 := (hk5.block _ (blk_lt HC5.out) (by omega)).trans HC5.out
                  cases hv : Pure.numN 16 256 r with
                  | bad j =>
                    rw [hv] at he
                    obtain rfl : e = wrongE j := he
                    have HX := Aside0.mk (show Pure.readN (Pure.nb s.data.toList) = .bad j by rw [HXX.out]; show (Pure.Rd.bind (Pure.Rd.bind (Pure.numN 16 256 r) _) _) = _; rw [hv]; rfl)
                    clear hv hk5 hc5
                    go_wp2
                    refine ⟨rfl, HK6.out, ?_⟩
                    rw [HX.out]
                  | got x q =>
                    rw [hv] at he
                    obtain ⟨v, s5, rfl, rfl, ha5, hr5, hs5⟩ := he
                    have HBo := Aside0.mk (show Pure.bodyN 9 r = .got { Pure.cmd0 9 with n := x } q by show (Pure.Rd.bind (Pure.numN 16 256 r) _) = _; rw [hv]; rfl)
                    have H6 := Aside0.mk (H5.out.kb hk5 ha5)
                    have HC6 := Aside0.mk hc5
                    have HQ := Aside0.mk (And.intro hr5 (show s5.size ≤ s.size by have := HF.out.2; omega))
                    clear hv hk5 hc5 hr5 hs5 ha5 c0 c1 c2 c3 c4 c5 f0 f1 f2 f3 f4 f5
                    unfold encI
                    obtain ⟨⟨c0, c1, c2, c3, c4, c5⟩, f0, f1, f2, f3, f4, f5⟩ := cells6 HC6.out
                    go_wp2_with (fail)
                    go_meet
                    have hb := ((Below.refl w.heap.size w5).setCell (p := ⟨w.heap.size, 1, none⟩) (Nat.le_refl _) (.int .i64 x))
                    have hKK : KB g w (w5.setCell ⟨w.heap.size, 1, none⟩ (.int .i64 x)) := ⟨hb.os.trans HK6.out.os, hb.tape.trans HK6.out.tape, hb.output.trans HK6.out.output, Nat.le_trans HK6.out.size hb.size, fun k hk hg => (hb.block k hk).trans (HK6.out.block k hk hg)⟩
                    have hz := HC6.out
                    exact ⟨_, _, s5, HBo, ⟨H0.out.kb hKK ((hb.block g hgl).trans H6.out.a)⟩, ⟨hKK⟩, HQ, ⟨[], ⟨#[]⟩, .slice none 0 0, by simp [World.setCell, Array.getElem?_modify, hz, cmdC, Pure.cmd0], rfl, rfl, Kd.R_nil _ _ _ _ _⟩⟩
                · by_cases k10 : k = 10
                  · obtain rfl := k10
                    obtain ⟨rfl, rfl, rfl⟩ := bnd_at (lo0 := 1) (hi0 := 63) rfl hbn
                    have HT := Aside0.mk (number_calls w0 g s' 1 63 (by have := HF.out.2; omega) _ H5.out)
                    rw [HF.out.1] at HT
                    go_wp2_with (fail)
                    refine HT.out.mono ?_
                    rintro e w5 ⟨hk5, he⟩
                    have HK6 := Aside0.mk (HK5.out.trans hk5)
                    have hc5 := (hk5.block _ (blk_lt HC5.out) (by omega)).trans HC5.out
                    cases hv : Pure.numN 1 63 r with
                    | bad j =>
                      rw [hv] at he
                      obtain rfl : e = wrongE j := he
                      have HX := Aside0.mk (show Pure.readN (Pure.nb s.data.toList) = .bad j by rw [HXX.out]; show (Pure.Rd.bind (Pure.Rd.bind (Pure.numN 1 63 r) _) _) = _; rw [hv]; rfl)
                      clear hv hk5 hc5
                      go_wp2
                      refine ⟨rfl, HK6.out, ?_⟩
                      rw [HX.out]
                    | got x q =>
                      rw [hv] at he
                      obtain ⟨v, s5, rfl, rfl, ha5, hr5, hs5⟩ := he
                      have HBo := Aside0.mk (show Pure.bodyN 10 r = .got { Pure.cmd0 10 with n := x } q by show (Pure.Rd.bind (Pure.numN 1 63 r) _) = _; rw [hv]; rfl)
                      have H6 := Aside0.mk (H5.out.kb hk5 ha5)
                      have HC6 := Aside0.mk hc5
                      have HQ := Aside0.mk (And.intro hr5 (show s5.size ≤ s.size by have := HF.out.2; omega))
                      clear hv hk5 hc5 hr5 hs5 ha5 c0 c1 c2 c3 c4 c5 f0 f1 f2 f3 f4 f5
                      unfold encI
                      obtain ⟨⟨c0, c1, c2, c3, c4, c5⟩, f0, f1, f2, f3, f4, f5⟩ := cells6 HC6.out
                      go_wp2_with (fail)
                      go_meet
                      have hb := ((Below.refl w.heap.size w5).setCell (p := ⟨w.heap.size, 1, none⟩) (Nat.le_refl _) (.int .i64 x))
                      have hKK : KB g w (w5.setCell ⟨w.heap.size, 1, none⟩ (.int .i64 x)) := ⟨hb.os.trans HK6.out.os, hb.tape.trans HK6.out.tape, hb.output.trans HK6.out.output, Nat.le_trans HK6.out.size hb.size, fun k hk hg => (hb.block k hk).trans (HK6.out.block k hk hg)⟩
                      have hz := HC6.out
                      exact ⟨_, _, s5, HBo, ⟨H0.out.kb hKK ((hb.block g hgl).trans H6.out.a)⟩, ⟨hKK⟩, HQ, ⟨[], ⟨#[]⟩, .slice none 0 0, by simp [World.setCell, Array.getElem?_modify, hz, cmdC, Pure.cmd0], rfl, rfl, Kd.R_nil _ _ _ _ _⟩⟩
                  · by_cases k11 : k = 11
                    · obtain rfl := k11
                      obtain ⟨rfl, rfl, rfl⟩ := bnd_at (lo0 := 4) (hi0 := 255) rfl hbn
                      have HT := Aside0.mk (number_calls w0 g s' 4 255 (by have := HF.out.2; omega) _ H5.out)
                      rw [HF.out.1] at HT
                      go_wp2_with (fail)
                      refine HT.out.mono ?_
                      rintro e w5 ⟨hk5, he⟩
                      have HK6 := Aside0.mk (HK5.out.trans hk5)
                      have hc5 := (hk5.block _ (blk_lt HC5.out) (by omega)).trans HC5.out
                      cases hv : Pure.numN 4 255 r with
                      | bad j =>
                        rw [hv] at he
                        obtain rfl : e = wrongE j := he
                        have HX := Aside0.mk (show Pure.readN (Pure.nb s.data.toList) = .bad j by rw [HXX.out]; show (Pure.Rd.bind (Pure.Rd.bind (Pure.numN 4 255 r) _) _) = _; rw [hv]; rfl)
                        clear hv hk5 hc5
                        go_wp2
                        refine ⟨rfl, HK6.out, ?_⟩
                        rw [HX.out]
                      | got x q =>
                        rw [hv] at he
                        obtain ⟨v, s5, rfl, rfl, ha5, hr5, hs5⟩ := he
                        have HBo := Aside0.mk (show Pure.bodyN 11 r = .got { Pure.cmd0 11 with n := x } q by show (Pure.Rd.bind (Pure.numN 4 255 r) _) = _; rw [hv]; rfl)
                        have H6 := Aside0.mk (H5.out.kb hk5 ha5)
                        have HC6 := Aside0.mk hc5
                        have HQ := Aside0.mk (And.intro hr5 (show s5.size ≤ s.size by have := HF.out.2; omega))
                        clear hv hk5 hc5 hr5 hs5 ha5 c0 c1 c2 c3 c4 c5 f0 f1 f2 f3 f4 f5
                        unfold encI
                        obtain ⟨⟨c0, c1, c2, c3, c4, c5⟩, f0, f1, f2, f3, f4, f5⟩ := cells6 HC6.out
                        go_wp2_with (fail)
                        go_meet
                        have hb := ((Below.refl w.heap.size w5).setCell (p := ⟨w.heap.size, 1, none⟩) (Nat.le_refl _) (.int .i64 x))
                        have hKK : KB g w (w5.setCell ⟨w.heap.size, 1, none⟩ (.int .i64 x)) := ⟨hb.os.trans HK6.out.os, hb.tape.trans HK6.out.tape, hb.output.trans HK6.out.output, Nat.le_trans HK6.out.size hb.size, fun k hk hg => (hb.block k hk).trans (HK6.out.block k hk hg)⟩
                        have hz := HC6.out
                        exact ⟨_, _, s5, HBo, ⟨H0.out.kb hKK ((hb.block g hgl).trans H6.out.a)⟩, ⟨hKK⟩, HQ, ⟨[], ⟨#[]⟩, .slice none 0 0, by simp [World.setCell, Array.getElem?_modify, hz, cmdC, Pure.cmd0], rfl, rfl, Kd.R_nil _ _ _ _ _⟩⟩
                    · by_cases k12 : k = 12
                      · obtain rfl := k12
                        obtain ⟨rfl, rfl, rfl⟩ := bnd_at (lo0 := 1) (hi0 := 15) rfl hbn
                        have HT := Aside0.mk (number_calls w0 g s' 1 15 (by have := HF.out.2; omega) _ H5.out)
                        rw [HF.out.1] at HT
                        go_wp2_with (fail)
                        refine HT.out.mono ?_
                        rintro e w5 ⟨hk5, he⟩
                        have HK6 := Aside0.mk (HK5.out.trans hk5)
                        have hc5 := (hk5.block _ (blk_lt HC5.out) (by omega)).trans HC5.out
                        cases hv : Pure.numN 1 15 r with
                        | bad j =>
                          rw [hv] at he
                          obtain rfl : e = wrongE j := he
                          have HX := Aside0.mk (show Pure.readN (Pure.nb s.data.toList) = .bad j by rw [HXX.out]; show (Pure.Rd.bind (Pure.Rd.bind (Pure.numN 1 15 r) _) _) = _; rw [hv]; rfl)
                          clear hv hk5 hc5
                          go_wp2
                          refine ⟨rfl, HK6.out, ?_⟩
                          rw [HX.out]
                        | got x q =>
                          rw [hv] at he
                          obtain ⟨v, s5, rfl, rfl, ha5, hr5, hs5⟩ := he
                          have HBo := Aside0.mk (show Pure.bodyN 12 r = .got { Pure.cmd0 12 with n := x } q by show (Pure.Rd.bind (Pure.numN 1 15 r) _) = _; rw [hv]; rfl)
                          have H6 := Aside0.mk (H5.out.kb hk5 ha5)
                          have HC6 := Aside0.mk hc5
                          have HQ := Aside0.mk (And.intro hr5 (show s5.size ≤ s.size by have := HF.out.2; omega))
                          clear hv hk5 hc5 hr5 hs5 ha5 c0 c1 c2 c3 c4 c5 f0 f1 f2 f3 f4 f5
                          unfold encI
                          obtain ⟨⟨c0, c1, c2, c3, c4, c5⟩, f0, f1, f2, f3, f4, f5⟩ := cells6 HC6.out
                          go_wp2_with (fail)
                          go_meet
                          have hb := ((Below.refl w.heap.size w5).setCell (p := ⟨w.heap.size, 1, none⟩) (Nat.le_refl _) (.int .i64 x))
                          have hKK : KB g w (w5.setCell ⟨w.heap.size, 1, none⟩ (.int .i64 x)) := ⟨hb.os.trans HK6.out.os, hb.tape.trans HK6.out.tape, hb.output.trans HK6.out.output, Nat.le_trans HK6.out.size hb.size, fun k hk hg => (hb.block k hk).trans (HK6.out.block k hk hg)⟩
                          have hz := HC6.out
                          exact ⟨_, _, s5, HBo, ⟨H0.out.kb hKK ((hb.block g hgl).trans H6.out.a)⟩, ⟨hKK⟩, HQ, ⟨[], ⟨#[]⟩, .slice none 0 0, by simp [World.setCell, Array.getElem?_modify, hz, cmdC, Pure.cmd0], rfl, rfl, Kd.R_nil _ _ _ _ _⟩⟩
                      · by_cases k16 : k = 16
                        · obtain rfl := k16
                          obtain ⟨rfl, rfl, rfl⟩ := bnd_at (lo0 := 1) (hi0 := 1000000) rfl hbn
                          have HT := Aside0.mk (number_calls w0 g s' 1 1000000 (by have := HF.out.2; omega) _ H5.out)
                          rw [HF.out.1] at HT
                          go_wp2_with (fail)
                          refine HT.out.mono ?_
                          rintro e w5 ⟨hk5, he⟩
                          have HK6 := Aside0.mk (HK5.out.trans hk5)
                          have hc5 := (hk5.block _ (blk_lt HC5.out) (by omega)).trans HC5.out
                          cases hv : Pure.numN 1 1000000 r with
                          | bad j =>
                            rw [hv] at he
                            obtain rfl : e = wrongE j := he
                            have HX := Aside0.mk (show Pure.readN (Pure.nb s.data.toList) = .bad j by rw [HXX.out]; show (Pure.Rd.bind (Pure.Rd.bind (Pure.numN 1 1000000 r) _) _) = _; rw [hv]; rfl)
                            clear hv hk5 hc5
                            go_wp2
                            refine ⟨rfl, HK6.out, ?_⟩
                            rw [HX.out]
                          | got x q =>
                            rw [hv] at he
                            obtain ⟨v, s5, rfl, rfl, ha5, hr5, hs5⟩ := he
                            have HBo := Aside0.mk (show Pure.bodyN 16 r = .got { Pure.cmd0 16 with n := x } q by show (Pure.Rd.bind (Pure.numN 1 1000000 r) _) = _; rw [hv]; rfl)
                            have H6 := Aside0.mk (H5.out.kb hk5 ha5)
                            have HC6 := Aside0.mk hc5
                            have HQ := Aside0.mk (And.intro hr5 (show s5.size ≤ s.size by have := HF.out.2; omega))
                            clear hv hk5 hc5 hr5 hs5 ha5 c0 c1 c2 c3 c4 c5 f0 f1 f2 f3 f4 f5
                            unfold encI
                            obtain ⟨⟨c0, c1, c2, c3, c4, c5⟩, f0, f1, f2, f3, f4, f5⟩ := cells6 HC6.out
                            go_wp2_with (fail)
                            go_meet
                            have hb := ((Below.refl w.heap.size w5).setCell (p := ⟨w.heap.size, 1, none⟩) (Nat.le_refl _) (.int .i64 x))
                            have hKK : KB g w (w5.setCell ⟨w.heap.size, 1, none⟩ (.int .i64 x)) := ⟨hb.os.trans HK6.out.os, hb.tape.trans HK6.out.tape, hb.output.trans HK6.out.output, Nat.le_trans HK6.out.size hb.size, fun k hk hg => (hb.block k hk).trans (HK6.out.block k hk hg)⟩
                            have hz := HC6.out
                            exact ⟨_, _, s5, HBo, ⟨H0.out.kb hKK ((hb.block g hgl).trans H6.out.a)⟩, ⟨hKK⟩, HQ, ⟨[], ⟨#[]⟩, .slice none 0 0, by simp [World.setCell, Array.getElem?_modify, hz, cmdC, Pure.cmd0], rfl, rfl, Kd.R_nil _ _ _ _ _⟩⟩
                        · by_cases k1 : k = 1
                          · obtain rfl := k1
                            have HT := Aside0.mk (call_calls w0 g s' (by have := HF.out.2; omega) _ H5.out)
                            rw [HF.out.1] at HT
                            go_wp2_with (fail)
                            refine HT.out.mono ?_
                            rintro e w5 ⟨hk5, he⟩
                            have HK6 := Aside0.mk (HK5.out.trans hk5)
                            have hc5 := (hk5.block _ (blk_lt HC5.out) (by omega)).trans HC5.out
                            cases hv : Pure.callN r with
                            | bad j =>
                              rw [hv] at he
                              obtain rfl : e = wrongE j := he
                              have HX := Aside0.mk (show Pure.readN (Pure.nb s.data.toList) = .bad j by rw [HXX.out]; show (Pure.Rd.bind (Pure.Rd.bind (Pure.callN r) _) _) = _; rw [hv]; rfl)
                              clear hv hk5 hc5
                              go_wp2
                              refine ⟨rfl, HK6.out, ?_⟩
                              rw [HX.out]
                            | got x q =>
                              rw [hv] at he
                              obtain ⟨v, s5, rfl, rfl, ha5, hr5, hs5⟩ := he
                              have HBB := Aside0.mk (show Pure.bodyN 1 r = if q = [] then .got { Pure.cmd0 1 with dst := x } q else (Pure.viaN q).bind fun v z => .got { Pure.cmd0 1 with dst := x, via := v } z by show (Pure.Rd.bind (Pure.callN r) _) = _; rw [hv]; rfl)
                              have H6 := Aside0.mk (H5.out.kb hk5 ha5)
                              have HC6 := Aside0.mk hc5
                              have hs5' : s5.size ≤ s.size := by have := HF.out.2; omega
                              have HQ := Aside0.mk (And.intro hr5 hs5')
                              clear hv hk5 hc5 hr5 hs5 ha5 c0 c1 c2 c3 c4 c5 f0 f1 f2 f3 f4 f5
                              unfold encC
                              obtain ⟨⟨c0, c1, c2, c3, c4, c5⟩, f0, f1, f2, f3, f4, f5⟩ := cells6 HC6.out
                              have hb := ((Below.refl w.heap.size w5).setCell (p := ⟨w.heap.size, 2, none⟩) (Nat.le_refl _) (.string x.1)).setCell (p := ⟨w.heap.size, 3, none⟩) (Nat.le_refl _) (.int .i64 x.2)
                              obtain ⟨w7, hw7⟩ : ∃ w7, (w5.setCell ⟨w.heap.size, 2, none⟩ (.string x.1)).setCell ⟨w.heap.size, 3, none⟩ (.int .i64 x.2) = w7 := ⟨_, rfl⟩
                              rw [hw7] at hb
                              have HK7 := Aside0.mk (show KB g w w7 from ⟨hb.os.trans HK6.out.os, hb.tape.trans HK6.out.tape, hb.output.trans HK6.out.output, Nat.le_trans HK6.out.size hb.size, fun k hk hg => (hb.block k hk).trans (HK6.out.block k hk hg)⟩)
                              have H7 := Aside0.mk (show At0 w0 g s5 w7 from H0.out.kb HK7.out ((hb.block g hgl).trans H6.out.a))
                              have hz := HC6.out
                              have HC7 := Aside0.mk (show w7.heap[w.heap.size]? = some (.cells #[.int .i64 1, .int .i64 0, .string x.1, .int .i64 x.2, .slice none 0 0, .string ⟨#[]⟩] 32 (0, 0)) by
                                rw [← hw7]
                                simp [World.setCell, Array.getElem?_modify, hz])
                              have HMo := Aside0.mk (more_calls g s5 (by omega) _ H7.out.a)
                              have HW7 := Aside0.mk hw7
                              clear hb hz hw7
                              by_cases hq : q = []
                              · have HBo := Aside0.mk (show Pure.bodyN 1 r = .got { Pure.cmd0 1 with dst := x } q by rw [HBB.out, if_pos hq])
                                rw [show moreB s5 = false by unfold moreB; rw [HQ.out.1, hq]; rfl] at HMo
                                clear hq HBB
                                go_wp2_with (fail)
                                rw [HW7.out]
                                refine HMo.out.mono ?_
                                rintro e w8 ⟨rfl, q8, rfl⟩
                                go_wp2_with (fail)
                                go_meet
                                exact ⟨_, _, s5, HBo, ⟨H7.out.below (pw_below_drewN (Below.refl _ _) q8)⟩, ⟨HK7.out.drewN q8⟩, HQ, ⟨[], ⟨#[]⟩, .slice none 0 0, HC7.out, rfl, rfl, Kd.R_nil _ _ _ _ _⟩⟩
                              · have HBv := Aside0.mk (show Pure.bodyN 1 r = (Pure.viaN q).bind fun v z => .got { Pure.cmd0 1 with dst := x, via := v } z by rw [HBB.out, if_neg hq])
                                rw [show moreB s5 = true by unfold moreB; rw [HQ.out.1]; simpa using hq] at HMo
                                clear hq HBB
                                go_wp2_with (fail)
                                rw [HW7.out]
                                refine HMo.out.mono ?_
                                rintro e w8 ⟨rfl, q8, rfl⟩
                                have H8 := Aside0.mk (H7.out.below (pw_below_drewN (Below.refl _ _) q8))
                                have HV := Aside0.mk (via_calls w0 g s5 (by omega) _ H8.out)
                                rw [HQ.out.1] at HV
                                have HK8 := Aside0.mk (HK7.out.drewN q8)
                                go_wp2_with (fail)
                                refine HV.out.mono ?_
                                rintro e w9 ⟨hk9, he⟩
                                have HK9 := Aside0.mk (HK8.out.trans hk9)
                                have hlt7 : w.heap.size < w7.heap.size := blk_lt HC7.out
                                have hc9 := (hk9.block _ hlt7 (by omega)).trans HC7.out
                                cases hv : Pure.viaN q with
                                | bad j =>
                                  rw [hv] at he
                                  obtain rfl : e = wrongE j := he
                                  have HX := Aside0.mk (show Pure.readN (Pure.nb s.data.toList) = .bad j by rw [HXX.out, HBv.out, hv]; rfl)
                                  clear hv hk9 hc9
                                  go_wp2
                                  refine ⟨rfl, HK9.out, ?_⟩
                                  rw [HX.out]
                                | got vl z =>
                                  rw [hv] at he
                                  obtain ⟨v, s9, rfl, ⟨l, hl, hrow⟩, ha9, hr9, hs9⟩ := he
                                  obtain ⟨A9, cap9, rfl, _, _⟩ := Kd.R_reads hrow
                                  have HBo := Aside0.mk (show Pure.bodyN 1 r = .got { Pure.cmd0 1 with dst := x, via := vl } z by rw [HBv.out, hv]; rfl)
                                  have HC9 := Aside0.mk hc9
                                  have HA9 := Aside0.mk ha9
                                  have HQ9 := Aside0.mk (And.intro hr9 (show s9.size ≤ s.size by omega))
                                  have HRW := Aside0.mk (And.intro hl hrow)
                                  clear hv hk9 hc9 hr9 hs9 ha9 hl hrow c0 c1 c2 c3 c4 c5 f0 f1 f2 f3 f4 f5
                                  obtain ⟨⟨c0, c1, c2, c3, c4, c5⟩, f0, f1, f2, f3, f4, f5⟩ := cells6 HC9.out
                                  go_wp2_with (fail)
                                  go_meet
                                  have hb := (Below.refl w.heap.size w9).setCell (p := ⟨w.heap.size, 4, none⟩) (Nat.le_refl _) (.slice A9 l.length cap9)
                                  have hKK : KB g w (w9.setCell ⟨w.heap.size, 4, none⟩ (.slice A9 l.length cap9)) := ⟨hb.os.trans HK9.out.os, hb.tape.trans HK9.out.tape, hb.output.trans HK9.out.output, Nat.le_trans HK9.out.size hb.size, fun k hk hg => (hb.block k hk).trans (HK9.out.block k hk hg)⟩
                                  have hz := HC9.out
                                  have hlt8 : w.heap.size < (w7.drewN q8).heap.size := hlt7
                                  exact ⟨_, _, s9, HBo, ⟨H0.out.kb hKK ((hb.block g hgl).trans HA9.out)⟩, ⟨hKK⟩, HQ9, ⟨l, ⟨#[]⟩, .slice A9 l.length cap9, by simp [World.setCell, Array.getElem?_modify, hz, cmdC, Pure.cmd0], rfl, HRW.out.1, Kd.R_mono (Kd.R_far HRW.out.2 (p := ⟨w.heap.size, 4, none⟩) (fun k hk => by have : (w7.drewN q8).heap.size ≤ k := hk; show k ≠ w.heap.size; omega) _) (fun k hk => by have : (w7.drewN q8).heap.size ≤ k := hk; omega)⟩⟩
                          · by_cases k5 : k = 5
                            · obtain rfl := k5
                              have HT := Aside0.mk (call_calls w0 g s' (by have := HF.out.2; omega) _ H5.out)
                              rw [HF.out.1] at HT
                              go_wp2_with (fail)
                              refine HT.out.mono ?_
                              rintro e w5 ⟨hk5, he⟩
                              have HK6 := Aside0.mk (HK5.out.trans hk5)
                              have hc5 := (hk5.block _ (blk_lt HC5.out) (by omega)).trans HC5.out
                              cases hv : Pure.callN r with
                              | bad j =>
                                rw [hv] at he
                                obtain rfl : e = wrongE j := he
                                have HX := Aside0.mk (show Pure.readN (Pure.nb s.data.toList) = .bad j by rw [HXX.out]; show (Pure.Rd.bind (Pure.Rd.bind (Pure.callN r) _) _) = _; rw [hv]; rfl)
                                clear hv hk5 hc5
                                go_wp2
                                refine ⟨rfl, HK6.out, ?_⟩
                                rw [HX.out]
                              | got x q =>
                                rw [hv] at he
                                obtain ⟨v, s5, rfl, rfl, ha5, hr5, hs5⟩ := he
                                have HBB := Aside0.mk (show Pure.bodyN 5 r = if q = [] then .got { Pure.cmd0 5 with dst := x } q else (Pure.viaN q).bind fun v z => .got { Pure.cmd0 5 with dst := x, via := v } z by show (Pure.Rd.bind (Pure.callN r) _) = _; rw [hv]; rfl)
                                have H6 := Aside0.mk (H5.out.kb hk5 ha5)
                                have HC6 := Aside0.mk hc5
                                have hs5' : s5.size ≤ s.size := by have := HF.out.2; omega
                                have HQ := Aside0.mk (And.intro hr5 hs5')
                                clear hv hk5 hc5 hr5 hs5 ha5 c0 c1 c2 c3 c4 c5 f0 f1 f2 f3 f4 f5
                                unfold encC
                                obtain ⟨⟨c0, c1, c2, c3, c4, c5⟩, f0, f1, f2, f3, f4, f5⟩ := cells6 HC6.out
                                have hb := ((Below.refl w.heap.size w5).setCell (p := ⟨w.heap.size, 2, none⟩) (Nat.le_refl _) (.string x.1)).setCell (p := ⟨w.heap.size, 3, none⟩) (Nat.le_refl _) (.int .i64 x.2)
                                obtain ⟨w7, hw7⟩ : ∃ w7, (w5.setCell ⟨w.heap.size, 2, none⟩ (.string x.1)).setCell ⟨w.heap.size, 3, none⟩ (.int .i64 x.2) = w7 := ⟨_, rfl⟩
                                rw [hw7] at hb
                                have HK7 := Aside0.mk (show KB g w w7 from ⟨hb.os.trans HK6.out.os, hb.tape.trans HK6.out.tape, hb.output.trans HK6.out.output, Nat.le_trans HK6.out.size hb.size, fun k hk hg => (hb.block k hk).trans (HK6.out.block k hk hg)⟩)
                                have H7 := Aside0.mk (show At0 w0 g s5 w7 from H0.out.kb HK7.out ((hb.block g hgl).trans H6.out.a))
                                have hz := HC6.out
                                have HC7 := Aside0.mk (show w7.heap[w.heap.size]? = some (.cells #[.int .i64 5, .int .i64 0, .string x.1, .int .i64 x.2, .slice none 0 0, .string ⟨#[]⟩] 32 (0, 0)) by
                                  rw [← hw7]
                                  simp [World.setCell, Array.getElem?_modify, hz])
                                have HMo := Aside0.mk (more_calls g s5 (by omega) _ H7.out.a)
                                have HW7 := Aside0.mk hw7
                                clear hb hz hw7
                                by_cases hq : q = []
                                · have HBo := Aside0.mk (show Pure.bodyN 5 r = .got { Pure.cmd0 5 with dst := x } q by rw [HBB.out, if_pos hq])
                                  rw [show moreB s5 = false by unfold moreB; rw [HQ.out.1, hq]; rfl] at HMo
                                  clear hq HBB
                                  go_wp2_with (fail)
                                  rw [HW7.out]
                                  refine HMo.out.mono ?_
                                  rintro e w8 ⟨rfl, q8, rfl⟩
                                  go_wp2_with (fail)
                                  go_meet
                                  exact ⟨_, _, s5, HBo, ⟨H7.out.below (pw_below_drewN (Below.refl _ _) q8)⟩, ⟨HK7.out.drewN q8⟩, HQ, ⟨[], ⟨#[]⟩, .slice none 0 0, HC7.out, rfl, rfl, Kd.R_nil _ _ _ _ _⟩⟩
                                · have HBv := Aside0.mk (show Pure.bodyN 5 r = (Pure.viaN q).bind fun v z => .got { Pure.cmd0 5 with dst := x, via := v } z by rw [HBB.out, if_neg hq])
                                  rw [show moreB s5 = true by unfold moreB; rw [HQ.out.1]; simpa using hq] at HMo
                                  clear hq HBB
                                  go_wp2_with (fail)
                                  rw [HW7.out]
                                  refine HMo.out.mono ?_
                                  rintro e w8 ⟨rfl, q8, rfl⟩
                                  have H8 := Aside0.mk (H7.out.below (pw_below_drewN (Below.refl _ _) q8))
                                  have HV := Aside0.mk (via_calls w0 g s5 (by omega) _ H8.out)
                                  rw [HQ.out.1] at HV
                                  have HK8 := Aside0.mk (HK7.out.drewN q8)
                                  go_wp2_with (fail)
                                  refine HV.out.mono ?_
                                  rintro e w9 ⟨hk9, he⟩
                                  have HK9 := Aside0.mk (HK8.out.trans hk9)
                                  have hlt7 : w.heap.size < w7.heap.size := blk_lt HC7.out
                                  have hc9 := (hk9.block _ hlt7 (by omega)).trans HC7.out
                                  cases hv : Pure.viaN q with
                                  | bad j =>
                                    rw [hv] at he
                                    obtain rfl : e = wrongE j := he
                                    have HX := Aside0.mk (show Pure.readN (Pure.nb s.data.toList) = .bad j by rw [HXX.out, HBv.out, hv]; rfl)
                                    clear hv hk9 hc9
                                    go_wp2
                                    refine ⟨rfl, HK9.out, ?_⟩
                                    rw [HX.out]
                                  | got vl z =>
                                    rw [hv] at he
                                    obtain ⟨v, s9, rfl, ⟨l, hl, hrow⟩, ha9, hr9, hs9⟩ := he
                                    obtain ⟨A9, cap9, rfl, _, _⟩ := Kd.R_reads hrow
                                    have HBo := Aside0.mk (show Pure.bodyN 5 r = .got { Pure.cmd0 5 with dst := x, via := vl } z by rw [HBv.out, hv]; rfl)
                                    have HC9 := Aside0.mk hc9
                                    have HA9 := Aside0.mk ha9
                                    have HQ9 := Aside0.mk (And.intro hr9 (show s9.size ≤ s.size by omega))
                                    have HRW := Aside0.mk (And.intro hl hrow)
                                    clear hv hk9 hc9 hr9 hs9 ha9 hl hrow c0 c1 c2 c3 c4 c5 f0 f1 f2 f3 f4 f5
                                    obtain ⟨⟨c0, c1, c2, c3, c4, c5⟩, f0, f1, f2, f3, f4, f5⟩ := cells6 HC9.out
                                    go_wp2_with (fail)
                                    go_meet
                                    have hb := (Below.refl w.heap.size w9).setCell (p := ⟨w.heap.size, 4, none⟩) (Nat.le_refl _) (.slice A9 l.length cap9)
                                    have hKK : KB g w (w9.setCell ⟨w.heap.size, 4, none⟩ (.slice A9 l.length cap9)) := ⟨hb.os.trans HK9.out.os, hb.tape.trans HK9.out.tape, hb.output.trans HK9.out.output, Nat.le_trans HK9.out.size hb.size, fun k hk hg => (hb.block k hk).trans (HK9.out.block k hk hg)⟩
                                    have hz := HC9.out
                                    have hlt8 : w.heap.size < (w7.drewN q8).heap.size := hlt7
                                    exact ⟨_, _, s9, HBo, ⟨H0.out.kb hKK ((hb.block g hgl).trans HA9.out)⟩, ⟨hKK⟩, HQ9, ⟨l, ⟨#[]⟩, .slice A9 l.length cap9, by simp [World.setCell, Array.getElem?_modify, hz, cmdC, Pure.cmd0], rfl, HRW.out.1, Kd.R_mono (Kd.R_far HRW.out.2 (p := ⟨w.heap.size, 4, none⟩) (fun k hk => by have : (w7.drewN q8).heap.size ≤ k := hk; show k ≠ w.heap.size; omega) _) (fun k hk => by have : (w7.drewN q8).heap.size ≤ k := hk; omega)⟩⟩
                            · have hn : Pure.bndN k = none := by unfold Pure.bndN; rw [if_neg k6, if_neg k9, if_neg k10, if_neg k11, if_neg k12, if_neg k16]
                              obtain rfl : bb = false := by
                                rcases hbn with ⟨h, _⟩ | ⟨_, h⟩
                                · rw [hn] at h; cases h
                                · exact h
                              have HBo := Aside0.mk (show Pure.bodyN k r = .got (Pure.cmd0 k) r by unfold Pure.bodyN; rw [if_neg k0, if_neg (by omega), if_neg k6, if_neg k13, if_neg (by omega), hn])
                              clear hbn hn
                              have b1 : (k == 1) = false := beq_eq_false_iff_ne.2 k1
                              have b5 : (k == 5) = false := beq_eq_false_iff_ne.2 k5
                              have b6 : (k == 6) = false := beq_eq_false_iff_ne.2 k6
                              have b13 : (k == 13) = false := beq_eq_false_iff_ne.2 k13
                              have b15 : (k == 15) = false := beq_eq_false_iff_ne.2 k15
                              have b17 : (k == 17) = false := beq_eq_false_iff_ne.2 k17
                              go_wp2_with (fail)
                              go_meet
                              exact ⟨_, _, s', HBo, H5, HK5, HF, ⟨[], ⟨#[]⟩, .slice none 0 0, HC5.out, rfl, rfl, Kd.R_nil _ _ _ _ _⟩⟩
    case rest =>
      obtain ⟨c, q, s5, HBo, H6, HK6, HQ, HR6⟩ := hcut
      obtain ⟨l, tx, via, hce, htx, hvia, hrow⟩ := HR6.out
      obtain ⟨A5, cap5, rfl, _, _⟩ := Kd.R_reads hrow
      have HCE := Aside0.mk hce
      have HRW := Aside0.mk hrow
      have HTX := Aside0.mk (And.intro htx hvia)
      clear hce hrow htx hvia HR6 HC5 H5 HK5 c0 c1 c2 c3 c4 c5 f0 f1 f2 f3 f4 f5
      have HMo := Aside0.mk (more_calls g s5 (by have := HQ.out.2; omega) _ H6.out.a)
      by_cases hq : q = []
      · have HX := Aside0.mk (show Pure.readN (Pure.nb s.data.toList) = .got c q by rw [HXX.out, HBo.out]; show (if q = [] then _ else _) = _; rw [if_pos hq])
        rw [show moreB s5 = false by unfold moreB; rw [HQ.out.1, hq]; rfl] at HMo
        clear hq HXX HBo
        go_wp2_with (fail)
        refine HMo.out.mono ?_
        rintro e w6 ⟨rfl, q6, rfl⟩
        go_wp2_with (fail)
        refine (must_ok 5 _).mono ?_
        rintro e w7 ⟨rfl, rfl⟩
        have hc7 := HCE.out
        unfold cmdC at hc7
        obtain ⟨⟨c0, c1, c2, c3, c4, c5⟩, f0, f1, f2, f3, f4, f5⟩ := cells6 hc7
        clear hc7
        go_wp2
        have hc8 : (wc.drewN q6).heap[w.heap.size]? = some (.cells #[.int .i64 c.k, .int .i64 c.n, .string c.dst.1, .int .i64 c.dst.2, .slice A5 l.length cap5, .string tx] 32 (0, 0)) := HCE.out
        refine bodyPost_ret (results_single rfl (.cell w.heap.size 32 (cmdC c.k c.n c.dst.1 c.dst.2 (.slice A5 l.length cap5) tx) (0, 0) _ rfl (six_set hc8) Tryz.underlying32 rfl (by kernel_rfl) .nil)) rfl ?_
        have hb := six_below (wc.drewN q6) w.heap.size (.int .i64 c.k) (.int .i64 c.n) (.string c.dst.1) (.int .i64 c.dst.2) (.slice A5 l.length cap5) (.string tx)
        have hK := HK6.out.drewN q6
        refine ⟨⟨hb.os.trans hK.os, hb.tape.trans hK.tape, hb.output.trans hK.output, Nat.le_trans hK.size hb.size, fun k hk hg => (hb.block k hk).trans (hK.block k hk hg)⟩, ?_⟩
        rw [HX.out]
        refine ⟨_, s5, rfl, ⟨l, tx, _, rfl, HTX.out.1, HTX.out.2, ?_⟩, (hb.block g hgl).trans (H6.out.a.drewN q6), HQ.out.1, HQ.out.2⟩
        exact Kd.R_mono (Kd.R_step (w := wc) HRW.out (fun k hk _ => six_far (wc.drewN q6) w.heap.size _ _ _ _ _ _ k (by have : w.heap.size < k := hk; omega))) (fun k hk => Nat.le_of_lt hk)
      · have HX := Aside0.mk (show Pure.readN (Pure.nb s.data.toList) = .bad 5 by rw [HXX.out, HBo.out]; show (if q = [] then _ else _) = _; rw [if_neg hq])
        rw [show moreB s5 = true by unfold moreB; rw [HQ.out.1]; simpa using hq] at HMo
        clear hq HXX HBo
        go_wp2_with (fail)
        refine HMo.out.mono ?_
        rintro e w6 ⟨rfl, q6, rfl⟩
        go_wp2_with (fail)
        refine (must_bad 5 _).mono ?_
        rintro e w7 ⟨rfl, rfl⟩
        go_wp2
        refine ⟨rfl, HK6.out.drewN q6, ?_⟩
        rw [HX.out]
end Go.Proofs.YtgaboenipiojoaaGreatDoor.QAll
end

section
/- cmd.Parse's deferred closure: its contracts; cmd.Parse. -/
set_option linter.unusedVariables false
set_option linter.unusedSimpArgs false
namespace Go.Proofs.YtgaboenipiojoaaGreatDoor.QAll
open Go.RowKit Go.Proofs.YtgaboenipiojoaaGreatDoorW.PrintWords Go.Proofs.YtgaboenipiojoaaGreatDoorW.PrintLast Go.Proofs.YtgaboenipiojoaaGreatDoorW.PrintMore
theorem catch_idle (p q : Addr) (w : World) :
    CallsD Tryz.prog 33 #[.pointer (some p), .pointer (some q)] .returning w fun e u' w' => e = .returned (.tuple #[]) ∧ u' = .returning ∧ w' = w := by
  refine callsD_of_wpS Tryz.func33 rfl fun c₀ cs hu => ?_
  apply wpS_seq
  apply wpS_region
  simp [wpOpsS, go_sem, recoverD, hu, Tryz.ntmps33, Exit.thenS]
  refine wpS_of_wp ?_
  cases c₀
  simp at hu
  go_wp2
  simp_all [bodyPostS, results, Tryz.f33]
theorem wp_opaque {P : Program} {c : Code} {Q : Exit → Act → World → Prop} {a : Act} {w : World} (h : ∀ Q' : Exit → Act → World → Prop, (∀ e a w, Q e a w → Q' e a w) → c.wp P Q' a w) : c.wp P Q a w := h Q (fun _ _ _ h => h)
theorem build32 (w : World) : (Instr.build 32 #[]).run Tryz.prog w = .ok (.agg zCmd) w := run_build w 32 #[] zCmd (by kernel_rfl)
theorem assert64 (v : Value) (w : World) : (Instr.typeAssert (.iface 64 v) 20 64 true).run Tryz.prog w = .ok (.tuple #[v, .bool true]) w := by kernel_rfl
set_option maxHeartbeats 1000000 in
set_option maxRecDepth 100000 in
theorem catch_wrong (pb qb : Nat) (hne : pb ≠ qb) (ev : Int) (older : List PanicEntry) (w : World) (a b c d e f : Value) (h : Value)
    (hp : w.heap[pb]? = some (.cells #[a, b, c, d, e, f] 32 (0, 0))) (hq : w.heap[qb]? = some (.cells #[h] 33 (0, 0))) :
    CallsD Tryz.prog 33 #[.pointer (some ⟨pb, 0, none⟩), .pointer (some ⟨qb, 0, none⟩)] (.panicking ({ v := .iface 64 (.int .i64 ev), recovered := false } :: older)) w fun e u' w' =>
      e = .returned (.tuple #[]) ∧ u' = .panicking ({ v := .iface 64 (.int .i64 ev), recovered := true } :: older) ∧ Below (min pb qb) w w' ∧
      w'.heap[pb]? = some (.cells zCmd 32 (0, 0)) ∧ w'.heap[qb]? = some (.cells #[.int .i64 ev] 33 (0, 0)) := by
  obtain ⟨⟨c0, c1, c2, c3, c4, c5⟩, f0, f1, f2, f3, f4, f5⟩ := cells6 hp
  obtain ⟨g0, g1⟩ : w.cell? ⟨qb, 0, none⟩ = some h ∧ w.frozen? ⟨qb, 0, none⟩ = false := by simp [World.cell?, World.frozen?, hq]
  have hne1 : ¬ pb = qb := hne
  have hne2 : ¬ qb = pb := fun h => hne h.symm
  have hu32 := Tryz.underlying32
  refine callsD_of_wpS Tryz.func33 rfl fun c₀ cs hu => ?_
  apply wpS_seq
  apply wpS_region
  simp [wpOpsS, go_sem, recoverD, hu, Tryz.ntmps33, Exit.thenS]
  refine wpS_of_wp ?_
  have ht : (#[Value.pointer (some { block := pb, off := 0 }), Value.pointer (some { block := qb, off := 0 })] ++
          (Array.replicate 11 undef).setIfInBounds 3 (Value.iface 64 (Value.int IntKind.i64 ev)) : Array Value) = #[Value.pointer (some { block := pb, off := 0 }), Value.pointer (some { block := qb, off := 0 }), undef, undef, undef, .iface 64 (.int .i64 ev), undef, undef, undef, undef, undef, undef, undef] := rfl
  rw [ht]
  clear ht
  have hu0 := hu
  clear hu
  have hb32 := build32
  have has := assert64
  unfold zCmd at hb32
  refine wp_opaque fun Q' hQ => ?_
  have HQ := Aside0.mk hQ
  clear hQ
  go_wp2
  refine HQ.out _ _ _ ?_
  have hz := six_set (a' := .int .i64 0) (b' := .int .i64 0) (c' := .string ⟨#[]⟩) (d' := .int .i64 0) (e' := .slice none 0 0) (f' := .string ⟨#[]⟩) hp
  have hy := (six_far w pb (.int .i64 0) (.int .i64 0) (.string ⟨#[]⟩) (.int .i64 0) (.slice none 0 0) (.string ⟨#[]⟩) qb hne2).trans hq
  have hb := six_below w pb (.int .i64 0) (.int .i64 0) (.string ⟨#[]⟩) (.int .i64 0) (.slice none 0 0) (.string ⟨#[]⟩)
  generalize ((((((w.setCell ⟨pb, 0, none⟩ (.int .i64 0)).setCell ⟨pb, 1, none⟩ (.int .i64 0)).setCell ⟨pb, 2, none⟩ (.string ⟨#[]⟩)).setCell ⟨pb, 3, none⟩ (.int .i64 0)).setCell ⟨pb, 4, none⟩ (.slice none 0 0)).setCell ⟨pb, 5, none⟩ (.string ⟨#[]⟩)) = w6 at hz hy hb ⊢
  have h1 : (w6.setCell ⟨qb, 0, none⟩ (.int .i64 ev)).heap[pb]? = some (.cells zCmd 32 (0, 0)) := (Below.heap_setCell w6 ⟨qb, 0, none⟩ _ pb hne1).trans hz
  have h2 : (w6.setCell ⟨qb, 0, none⟩ (.int .i64 ev)).heap[qb]? = some (.cells #[.int .i64 ev] 33 (0, 0)) := by simp [World.setCell, Array.getElem?_modify, hy]
  have h3 : Below (min pb qb) w (w6.setCell ⟨qb, 0, none⟩ (.int .i64 ev)) := Below.setCell (p := ⟨qb, 0, none⟩) (hb.mono (Nat.min_le_left pb qb)) (Nat.min_le_right pb qb) _
  generalize w6.setCell ⟨qb, 0, none⟩ (.int .i64 ev) = w7 at h1 h2 h3 ⊢
  simp [bodyPostS, results, Tryz.f33, hu0, h1, h2, h3]
/-- What Parse hands back: a command in memory of its own. -/
def CmdQ (w0 : World) (a : Pure.CmdM) (v : Value) (w' : World) : Prop :=
  ∃ (l : List S29) (tx : ByteArray) (via : Value), v = .agg (cmdC a.k a.n a.dst.1 a.dst.2 via tx) ∧ tx.data.toList = a.text ∧ a.via = l.map (fun x => (x.f0, x.f1)) ∧ Kd.R k29 29 w' w0.heap.size (fun k => w0.heap.size ≤ k) via l
def ParseP (w : World) (s : ByteArray) (e : Ending) (w' : World) : Prop :=
  Below w.heap.size w w' ∧ ∃ v, e = .returned (.tuple #[v, .int .i64 (Pure.parseN s.data.toList).2]) ∧ CmdQ w (Pure.parseN s.data.toList).1 v w'
theorem results_cs {P : Program} {fn : Func} {p q : Tmp} {ty tz : TypeId} (h : fn.results = #[.cell p ty, .cell q tz]) (tmps : Array Value) (w : World) (g g' : Nat) (t t' : TypeId) (cs : Array Value) (x : Value) (d d' : TypeDesc)
    (hp : tmps.getD p undef = .pointer (some ⟨g, 0, none⟩)) (hq : tmps.getD q undef = .pointer (some ⟨g', 0, none⟩)) (hg : w.heap[g]? = some (.cells cs t (0, 0))) (hg' : w.heap[g']? = some (.cells #[x] t' (0, 0)))
    (hd : (match d with | .struct _ | .array _ _ => true | _ => false) = true) (hd' : (match d' with | .struct _ | .array _ _ => true | _ => false) = false)
    (hu : P.underlying ty = some d) (hi : (P.info? ty).map (·.size) = some cs.size) (hu' : P.underlying tz = some d') : (results fn tmps).run P w = .ok (.tuple #[.agg cs, x]) w := by
  have h1 := run_loadVar_row w g t ty cs (0, 0) d hg hu (by cases d <;> first | rfl | (simp at hd)) hi
  have h2 : (loadVar tz ⟨g', 0, none⟩).run P w = .ok x w := by
    unfold loadVar isAgg load
    rw [Sem.run_bind, Sem.run_bind, run_underlying hu']
    cases d' <;> first | (simp at hd'; done) | (simp [Sem.run, World.cell?, hg'])
  unfold results
  rw [h, List.mapM_toArray]
  simp only [Sem.run_bind, Sem.run_map]
  have e1 : asAddr (tmps.getD p undef) = pure ⟨g, 0, none⟩ := by rw [hp]; rfl
  have e2 : asAddr (tmps.getD q undef) = pure ⟨g', 0, none⟩ := by rw [hq]; rfl
  rw [List.mapM_cons, List.mapM_cons, List.mapM_nil]
  simp only [e1, e2]
  simp [h1, h2]
set_option maxHeartbeats 4000000 in
set_option maxRecDepth 100000 in
theorem parse_calls (s : ByteArray) (hs : s.size ≤ 1000000) (w : World) (hE : EnvW w) :
    Calls Tryz.prog 11 #[.string s] w (ParseP w s) := by
  have HE := Aside0.mk hE
  clear hE
  have hu32 := Tryz.underlying32
  have hmf : ∀ (fn : Fn) (first cap : Array Value) (w : World), (Instr.makeFunc fn first cap).run Tryz.prog w = .ok (.func fn first cap) w := fun _ _ _ _ => rfl
  have hb1 := (Below.refl w.heap.size w).alloc (Nat.le_refl _) (.cells zCmd 32)
  have hb2 := hb1.alloc (by simp) (.cells #[.int .i64 0] 33)
  have hb3 := hb2.alloc (by simp; omega) (.cells #[.string s] 67)
  have HW := Aside0.mk (show ∃ w3, ((w.alloc (.cells zCmd 32)).alloc (.cells #[.int .i64 0] 33)).alloc (.cells #[.string s] 67) = w3 ∧ Below w.heap.size w w3 ∧ w3.heap.size = w.heap.size + 3 ∧
      w3.heap[w.heap.size]? = some (.cells zCmd 32 (0, 0)) ∧ w3.heap[w.heap.size + 1]? = some (.cells #[.int .i64 0] 33 (0, 0)) ∧ w3.heap[w.heap.size + 1 + 1]? = some (.cells #[.string s] 67 (0, 0)) from
    ⟨_, rfl, hb3, by simp, (Below.heap_alloc _ _ _ (by simp; omega)).trans ((Below.heap_alloc _ _ _ (by simp)).trans (heap_alloc_new w _)), (Below.heap_alloc _ _ _ (by simp)).trans (by have := heap_alloc_new (w.alloc (.cells zCmd 32)) (.cells #[.int .i64 0] 33); simpa using this), by have := heap_alloc_new ((w.alloc (.cells zCmd 32)).alloc (.cells #[.int .i64 0] 33)) (.cells #[.string s] 67); simpa using this⟩)
  clear hb1 hb2 hb3
  unfold zCmd at HW
  go_enter_defers Tryz.func11, Tryz.ntmps11
  go_wp2_with (fail)
  obtain ⟨w3, h30, h31, h32, h33, h34, h35⟩ := HW.out
  rw [h30]
  clear h30 HW
  have H3 := Aside0.mk (show At0 w (w.heap.size + 1 + 1) s w3 from ⟨HE.out, h31, by omega, h35⟩)
  have HF := Aside0.mk (And.intro h31 (And.intro h32 (And.intro h33 h34)))
  clear h31 h32 h33 h34 h35
  have HR := Aside0.mk (read_calls w (w.heap.size + 1 + 1) s hs w3 H3.out)
  refine HR.out.mono ?_
  rintro e w4 ⟨hk, he⟩
  obtain ⟨h31, h32, h33, h34⟩ := HF.out
  have h41 : w4.heap[w.heap.size]? = some (.cells zCmd 32 (0, 0)) := (hk.block _ (by omega) (by omega)).trans h33
  have h42 : w4.heap[w.heap.size + 1]? = some (.cells #[.int .i64 0] 33 (0, 0)) := (hk.block _ (by omega) (by omega)).trans h34
  have h43 : Below w.heap.size w w4 := hk.below h31 (by omega) (by omega)
  cases hrd : Pure.readN (Pure.nb s.data.toList) with
  | bad k =>
    rw [hrd] at he
    obtain rfl : e = wrongE k := he
    have hp : Pure.parseN s.data.toList = (Pure.cmd0 0, k) := by unfold Pure.parseN; rw [hrd]
    rw [wrongE]
    show Leaves _ _ _ _ _ _ _
    refine leaves_cons (f := 33) (args := #[.pointer (some ⟨w.heap.size, 0, none⟩), .pointer (some ⟨w.heap.size + 1, 0, none⟩)]) (by simp) (by simp [go_sem]) ?_
    refine (catch_wrong w.heap.size (w.heap.size + 1) (by omega) k [] w4 _ _ _ _ _ _ _ h41 h42).mono ?_
    rintro e u' w5 ⟨rfl, rfl, hb5, h51, h52⟩
    refine ⟨_, results_cs rfl _ w5 w.heap.size (w.heap.size + 1) 32 33 zCmd (.int .i64 k) _ _ rfl rfl h51 h52 rfl rfl Tryz.underlying32 (by kernel_rfl) Tryz.underlying33, ?_, ?_⟩
    · exact h43.trans (hb5.mono (by simp))
    · rw [hp]
      exact ⟨_, rfl, [], ⟨#[]⟩, .slice none 0 0, rfl, rfl, rfl, Kd.R_nil _ _ _ _ _⟩
  | got a r =>
    rw [hrd] at he
    obtain ⟨v, s', rfl, ⟨l, tx, via, rfl, htx, hvia, hrow⟩, -, -, -⟩ := he
    have hp : Pure.parseN s.data.toList = (a, 0) := by unfold Pure.parseN; rw [hrd]
    obtain ⟨A4, cap4, rfl, hA4, -⟩ := Kd.R_reads hrow
    obtain ⟨⟨c0, c1, c2, c3, c4, c5⟩, f0, f1, f2, f3, f4, f5⟩ := cells6 h41
    obtain ⟨g0, g1⟩ : w4.cell? ⟨w.heap.size + 1, 0, none⟩ = some (.int .i64 0) ∧ w4.frozen? ⟨w.heap.size + 1, 0, none⟩ = false := by simp [World.cell?, World.frozen?, h42]
    have HF4 := Aside0.mk (And.intro h41 (And.intro h42 (And.intro h43 (And.intro hk.size h32))))
    have HRW := Aside0.mk (And.intro htx (And.intro hvia hrow))
    have HP := Aside0.mk hp
    clear h31 h32 h33 h34 h41 h42 h43 hk hrow htx hvia hp hrd HR HF H3 hA4
    unfold cmdC
    go_wp2
    obtain ⟨h41, h42, h43, hsz, h32⟩ := HF4.out
    obtain ⟨htx, hvia, hrow⟩ := HRW.out
    have hz := six_set (a' := .int .i64 a.k) (b' := .int .i64 a.n) (c' := .string a.dst.1) (d' := .int .i64 a.dst.2) (e' := .slice A4 l.length cap4) (f' := .string tx) h41
    have hy := (six_far w4 w.heap.size (.int .i64 a.k) (.int .i64 a.n) (.string a.dst.1) (.int .i64 a.dst.2) (.slice A4 l.length cap4) (.string tx) (w.heap.size + 1) (by omega)).trans h42
    have hb := six_below w4 w.heap.size (.int .i64 a.k) (.int .i64 a.n) (.string a.dst.1) (.int .i64 a.dst.2) (.slice A4 l.length cap4) (.string tx)
    have hr6 := Kd.R_step hrow (fun k hk _ => six_far w4 w.heap.size (.int .i64 a.k) (.int .i64 a.n) (.string a.dst.1) (.int .i64 a.dst.2) (.slice A4 l.length cap4) (.string tx) k (by have : w3.heap.size ≤ k := hk; omega))
    generalize ((((((w4.setCell ⟨w.heap.size, 0, none⟩ (.int .i64 a.k)).setCell ⟨w.heap.size, 1, none⟩ (.int .i64 a.n)).setCell ⟨w.heap.size, 2, none⟩ (.string a.dst.1)).setCell ⟨w.heap.size, 3, none⟩ (.int .i64 a.dst.2)).setCell ⟨w.heap.size, 4, none⟩ (.slice A4 l.length cap4)).setCell ⟨w.heap.size, 5, none⟩ (.string tx)) = w6 at hz hy hb hr6 ⊢
    have h1 : (w6.setCell ⟨w.heap.size + 1, 0, none⟩ (.int .i64 0)).heap[w.heap.size]? = some (.cells (cmdC a.k a.n a.dst.1 a.dst.2 (.slice A4 l.length cap4) tx) 32 (0, 0)) := (Below.heap_setCell w6 ⟨w.heap.size + 1, 0, none⟩ _ w.heap.size (by show w.heap.size ≠ w.heap.size + 1; omega)).trans hz
    have h2 : (w6.setCell ⟨w.heap.size + 1, 0, none⟩ (.int .i64 0)).heap[w.heap.size + 1]? = some (.cells #[.int .i64 0] 33 (0, 0)) := by simp [World.setCell, Array.getElem?_modify, hy]
    have h3 : Below w.heap.size w (w6.setCell ⟨w.heap.size + 1, 0, none⟩ (.int .i64 0)) := Below.setCell (p := ⟨w.heap.size + 1, 0, none⟩) (h43.trans hb) (by simp) _
    have h4 := Kd.R_mono (Kd.R_far hr6 (p := ⟨w.heap.size + 1, 0, none⟩) (fun k hk => by have : w3.heap.size ≤ k := hk; show k ≠ w.heap.size + 1; omega) (.int .i64 0)) (ok' := fun k => w.heap.size ≤ k) (fun k hk => by have : w3.heap.size ≤ k := hk; omega)
    generalize w6.setCell ⟨w.heap.size + 1, 0, none⟩ (.int .i64 0) = w7 at h1 h2 h3 h4 ⊢
    show Leaves _ _ _ _ _ _ _
    refine leaves_cons (f := 33) (args := #[.pointer (some ⟨w.heap.size, 0, none⟩), .pointer (some ⟨w.heap.size + 1, 0, none⟩)]) (by simp) (by simp [go_sem]) ?_
    refine (catch_idle _ _ w7).mono ?_
    rintro e u' w8 ⟨rfl, rfl, rfl⟩
    refine ⟨_, results_cs rfl _ w8 w.heap.size (w.heap.size + 1) 32 33 _ (.int .i64 0) _ _ rfl rfl h1 h2 rfl rfl Tryz.underlying32 (by kernel_rfl) Tryz.underlying33, h3, ?_⟩
    rw [HP.out]
    exact ⟨_, rfl, l, tx, _, rfl, htx, hvia, h4⟩
end Go.Proofs.YtgaboenipiojoaaGreatDoor.QAll
end

section
/- The example of layer 25: what cmd.Parse tells of one line. -/
set_option linter.unusedVariables false
set_option linter.unusedSimpArgs false
namespace Go.Proofs.YtgaboenipiojoaaGreatDoor.QAll
open Go.RowKit Go.Proofs.YtgaboenipiojoaaGreatDoorW.PrintWords Go.Proofs.YtgaboenipiojoaaGreatDoorW.PrintLast Go.Proofs.YtgaboenipiojoaaGreatDoorW.PrintMore
/-- What Parse tells of a line of which that is known. -/
theorem parse_at (s : ByteArray) (hs : s.size ≤ 1000000) (k n : Int) (b : ByteArray) (ss : Int) (vl : List (ByteArray × Int)) (tl : Pure.L8) (er : Int) (hp : Pure.parseN s.data.toList = (⟨k, n, (b, ss), vl, tl⟩, er)) (w : World) (hE : EnvW w) :
    Calls Tryz.prog 11 #[.string s] w fun e w' => Below w.heap.size w w' ∧ ∃ (l : List S29) (tx : ByteArray) (A : Option Addr) (cap : Nat), e = .returned (.tuple #[.agg #[.int .i64 k, .int .i64 n, .string b, .int .i64 ss, .slice A l.length cap, .string tx], .int .i64 er]) ∧
      tx.data.toList = tl ∧ vl = l.map (fun x => (x.f0, x.f1)) ∧ Kd.C k29 w' A l.length l ∧ l.length ≤ cap := by
  refine (parse_calls s hs w hE).mono ?_
  rintro e w1 ⟨hb, v, rfl, hq⟩
  rw [hp] at hq ⊢
  obtain ⟨l, tx, via, rfl, htx, hvia, hrow⟩ := hq
  obtain ⟨A, cap, rfl, hc, hC⟩ := Kd.R_reads hrow
  exact ⟨hb, l, tx, A, cap, rfl, htx, hvia, hC, hc⟩
def awkB : ByteArray := ⟨#[99, 32, 110, 48, 99, 97, 108, 108, 32, 118, 32, 97, 44, 98, 45, 50]⟩
theorem awk_parse : Pure.parseN awkB.data.toList = (⟨1, 0, (⟨#[78, 48, 67, 65, 76, 76]⟩, 0), [(⟨#[65]⟩, 0), (⟨#[66]⟩, 2)], []⟩, 0) := by kernel_rfl
set_option maxHeartbeats 2000000 in
set_option maxRecDepth 100000 in
theorem awake5_calls (w : World) (hE : EnvW w) : Calls Tryz.prog 7 #[] w fun e w' => e = .returned (.bool true) ∧ Below w.heap.size w w' := by
  have HE := Aside0.mk hE
  clear hE
  have hu32 := Tryz.underlying32
  have hu29 := Tryz.underlying29
  have HP := Aside0.mk (parse_at awkB (by decide) 1 0 _ 0 _ [] 0 awk_parse w HE.out)
  unfold awkB at HP
  go_enter Tryz.func7, Tryz.ntmps7
  go_wp2_with (fail)
  refine HP.out.mono ?_
  rintro e w1 ⟨hb1, l, tx, A, cap, rfl, htx, hvia, hC, hcap⟩
  obtain ⟨x, y, rfl⟩ : ∃ x y, l = [x, y] := by
    have hl := congrArg List.length hvia
    rw [List.length_map] at hl
    match l, hl with
    | [x, y], _ => exact ⟨x, y, rfl⟩
  simp only [List.map_cons, List.map_nil, List.cons.injEq, Prod.mk.injEq] at hvia
  obtain ⟨-, ⟨hy0, hy1⟩, -⟩ := hvia
  obtain ⟨ad, rfl, ca, cb⟩ := at_T29 hC 1 (by omega) (by simp)
  have e1 : rd_T29 [x, y] 1 = y := rfl
  rw [e1, ← hy0] at ca
  rw [e1, ← hy1] at cb
  have hlt := World.block_lt_of_cell? _ _ ca
  obtain ⟨b0, o0, s0⟩ := ad
  have ca' : w1.cell? ⟨b0, o0 + 2, none⟩ = some (.string ⟨#[66]⟩) := ca
  have cb' : w1.cell? ⟨b0, o0 + 2 + 1, none⟩ = some (.int .i64 2) := cb
  have hlt' : b0 < w1.heap.size := hlt
  have hne : ¬ w1.heap.size = b0 := by omega
  have hne' : ¬ b0 = w1.heap.size := by omega
  have HF := Aside0.mk hb1
  clear ca cb hlt hC hcap hb1 htx hy0 hy1 e1 HP HE
  have hlen : ([x, y] : List S29).length = 2 := rfl
  rw [hlen]
  go_wp2
  go_ret
  exact ⟨rfl, HF.out.alloc HF.out.size _⟩
end Go.Proofs.YtgaboenipiojoaaGreatDoor.QAll
end

section
/- A line of ASCII in great letters, its blanks made many, is the same command, but in its text. -/
set_option linter.unusedVariables false
set_option linter.unusedSimpArgs false
namespace Go.Proofs.YtgaboenipiojoaaGreatDoor.Pure
open Go Go.RowKit Go.Proofs.YtgaboenipiojoaaGreatDoor.QAll
def dv (v : Nat) (c : UInt8) : Nat := v * 10 + (c.toNat - 48)
theorem dec_rec (u : Nat) : Lib.decDigits u = if u < 10 then [UInt8.ofNat (48 + u)] else Lib.decDigits (u / 10) ++ [UInt8.ofNat (48 + u % 10)] := by
  rw [Lib.decDigits]
  split <;> rfl
theorem dig_nat (z : Nat) (h : z < 10) : (UInt8.ofNat (48 + z)).toNat = 48 + z := by
  have : (48 + z) % 256 = 48 + z := Nat.mod_eq_of_lt (by omega)
  simpa using this
theorem dec_all : ∀ (j u : Nat), u < 10 ^ (j + 1) → (∀ c ∈ Lib.decDigits u, 48 ≤ c.toNat ∧ c.toNat ≤ 57) ∧ (Lib.decDigits u).foldl dv 0 = u ∧ 1 ≤ (Lib.decDigits u).length ∧ (Lib.decDigits u).length ≤ j + 1 := by
  intro j
  induction j with
  | zero =>
    intro u hu
    have hu' : u < 10 := by simpa using hu
    rw [dec_rec, if_pos hu']
    refine ⟨fun c hc => ?_, ?_, by simp, by simp⟩
    · rw [List.mem_singleton] at hc
      rw [hc, dig_nat u hu']
      omega
    · rw [List.foldl_cons, List.foldl_nil, dv, dig_nat u hu']
      omega
  | succ j ih =>
    intro u hu
    by_cases hl : u < 10
    · rw [dec_rec, if_pos hl]
      refine ⟨fun c hc => ?_, ?_, by simp, by simp⟩
      · rw [List.mem_singleton] at hc
        rw [hc, dig_nat u hl]
        omega
      · rw [List.foldl_cons, List.foldl_nil, dv, dig_nat u hl]
        omega
    · have hp : u / 10 < 10 ^ (j + 1) := by
        rw [Nat.pow_succ] at hu
        omega
      obtain ⟨h1, h2, h3, h4⟩ := ih (u / 10) hp
      rw [dec_rec, if_neg hl]
      refine ⟨fun c hc => ?_, ?_, ?_, ?_⟩
      · rcases List.mem_append.1 hc with hc | hc
        · exact h1 c hc
        · rw [List.mem_singleton] at hc
          rw [hc, dig_nat _ (by omega)]
          omega
      · rw [List.foldl_append, h2, List.foldl_cons, List.foldl_nil, dv, dig_nat _ (by omega)]
        omega
      · rw [List.length_append]; omega
      · rw [List.length_append, List.length_singleton]; omega
def strB (k : Nat) (c : UInt8) : L8 := if c = 32 then List.replicate (k + 1) 32 else [upC c]
/-- In great letters, each blank k more. -/
def sx (k : Nat) (l : L8) : L8 := l.flatMap (strB k)
theorem sx_nil (k : Nat) : sx k [] = [] := rfl
theorem sx_cons (k : Nat) (c : UInt8) (l : L8) : sx k (c :: l) = strB k c ++ sx k l := by simp [sx]
theorem sx_app (k : Nat) (a b : L8) : sx k (a ++ b) = sx k a ++ sx k b := by simp [sx]
theorem upC_32 (c : UInt8) (h : c ≠ 32) : upC c ≠ 32 := by
  unfold upC
  split
  · rename_i h1
    intro e
    have := congrArg UInt8.toNat e
    rw [UInt8.toNat_ofNat'] at this
    have hc := c.toNat_lt
    simp at this
    omega
  · exact h
theorem sx_blank (k j : Nat) : sx k (List.replicate j 32) = List.replicate (j * (k + 1)) 32 := by
  induction j with
  | zero => simp [sx]
  | succ j ih =>
    rw [List.replicate_succ, sx_cons, ih]
    unfold strB
    rw [if_pos rfl, List.replicate_append_replicate]
    congr 1
    rw [Nat.succ_mul]
    omega
theorem sx_eq_nil (k : Nat) (l : L8) : sx k l = [] ↔ l = [] := by
  cases l with
  | nil => simp [sx]
  | cons c l =>
    rw [sx_cons]
    unfold strB
    split <;> simp [List.replicate_succ]
theorem nbL_sx (k : Nat) (l : L8) : nbL (sx k l) = sx k (nbL l) := by
  obtain ⟨j, hj⟩ := dw_form l
  have h1 : nbL (sx k l) = nbL (sx k (nbL l)) := by
    conv => lhs; rw [hj, sx_app, sx_blank]
    rw [nbL_app]
    rfl
  rw [h1]
  have : nbL l = [] ∨ ∃ c r, nbL l = c :: r ∧ c ≠ 32 := by
    unfold nbL
    cases hq : l.dropWhile (· == 32) with
    | nil => exact Or.inl rfl
    | cons x r =>
      refine Or.inr ⟨x, r, rfl, ?_⟩
      have := List.head?_dropWhile_not (fun b : UInt8 => b == 32) l
      rw [hq] at this
      simpa using this
  rcases this with h | ⟨c, r, h, hc⟩
  · rw [h]; rfl
  · rw [h, sx_cons]
    unfold strB
    rw [if_neg hc]
    exact List.dropWhile_cons_of_neg (by simpa using upC_32 c hc)
theorem nbR_sx (k : Nat) (l : L8) : nbR (sx k l) = sx k (nbR l) := by
  obtain ⟨j, hj⟩ := nbR_form l
  have h1 : nbR (sx k l) = nbR (sx k (nbR l)) := by
    conv => lhs; rw [hj, sx_app, sx_blank]
    rw [nbR_app]
  rw [h1]
  have : nbR l = [] ∨ ∃ c r, nbR l = r ++ [c] ∧ c ≠ 32 := by
    unfold nbR
    cases hq : l.reverse.dropWhile (· == 32) with
    | nil => exact Or.inl rfl
    | cons x r =>
      refine Or.inr ⟨x, r.reverse, by simp, ?_⟩
      have := List.head?_dropWhile_not (fun b : UInt8 => b == 32) l.reverse
      rw [hq] at this
      simpa using this
  rcases this with h | ⟨c, r, h, hc⟩
  · rw [h]; rfl
  · rw [h, sx_app]
    have e : sx k [c] = [upC c] := by
      rw [sx_cons]
      unfold strB
      rw [if_neg hc]
      rfl
    rw [e]
    unfold nbR
    rw [List.reverse_append, List.reverse_singleton, List.singleton_append, List.dropWhile_cons_of_neg (by simpa using upC_32 c hc)]
    simp
theorem nb_sx (k : Nat) (l : L8) : nb (sx k l) = sx k (nb l) := by
  unfold nb
  rw [nbR_sx, nbL_sx]
theorem wd_sx (k : Nat) (m : L8) : wd (sx k m) = (wd m).map upC ∧ (sx k m).dropWhile (· != 32) = sx k (m.dropWhile (· != 32)) := by
  unfold wd
  induction m with
  | nil => exact ⟨rfl, rfl⟩
  | cons c m ih =>
    rw [sx_cons]
    by_cases h : c = 32
    · subst h
      unfold strB
      rw [if_pos rfl, List.replicate_succ]
      simp [sx_cons, strB, List.replicate_succ]
    · have hu := upC_32 c h
      unfold strB
      rw [if_neg h, List.singleton_append, List.takeWhile_cons_of_pos (by simpa using hu), List.takeWhile_cons_of_pos (by simpa using h), List.dropWhile_cons_of_pos (by simpa using hu), List.dropWhile_cons_of_pos (by simpa using h), List.map_cons, ih.1, ih.2]
      exact ⟨rfl, rfl⟩
theorem rs_sx (k : Nat) (m : L8) : rs (sx k m) = sx k (rs m) := by
  unfold rs
  rw [(wd_sx k m).2, nb_sx]
theorem upC_sep (c : UInt8) (h : sepB c = false) : sepB (upC c) = false := by
  have h1 : c ≠ 32 := by rintro rfl; simp [sepB] at h
  have h2 : c ≠ 44 := by rintro rfl; simp [sepB] at h
  have h3 := upC_32 c h1
  have h4 : upC c ≠ 44 := by
    unfold upC
    split
    · intro e
      have := congrArg UInt8.toNat e
      rw [UInt8.toNat_ofNat'] at this
      have hc := c.toNat_lt
      simp at this
      omega
    · exact h2
  unfold sepB
  rw [beq_eq_false_iff_ne.2 h3, beq_eq_false_iff_ne.2 h4]
  rfl
theorem fields_sx (k : Nat) : ∀ (l cur : L8), fieldsGo (sx k l) (cur.map upC) = (fieldsGo l cur).map (·.map upC)
  | [], cur => by
    simp only [sx_nil, fieldsGo]
    by_cases h : cur = []
    · subst h; simp
    · rw [if_neg h, if_neg (by simpa using h)]; rfl
  | c :: l, cur => by
    rw [sx_cons]
    by_cases h : c = 32
    · subst h
      have e : ∀ (j : Nat) (q : L8), fieldsGo (List.replicate j 32 ++ q) [] = fieldsGo q [] := by
        intro j q
        induction j with
        | zero => rfl
        | succ j ih =>
          rw [List.replicate_succ, List.cons_append]
          simp only [fieldsGo]
          rw [if_pos (by decide), if_pos trivial, ih]
      have hb := fields_sx k l []
      have hb' : fieldsGo (sx k l) [] = (fieldsGo l []).map (·.map upC) := hb
      unfold strB
      rw [if_pos rfl, List.replicate_succ, List.cons_append]
      simp only [fieldsGo]
      rw [show sepB 32 = true from by decide, if_pos rfl, if_pos rfl, e, hb']
      by_cases hc : cur = []
      · subst hc; simp
      · rw [if_neg hc, if_neg (by simpa using hc)]; rfl
    · unfold strB
      rw [if_neg h, List.singleton_append]
      simp only [fieldsGo]
      cases hs : sepB c with
      | true =>
        have h44 : c = 44 := by
          unfold sepB at hs
          rw [Bool.or_eq_true, beq_iff_eq, beq_iff_eq] at hs
          rcases hs with hs | hs
          · exact absurd hs h
          · exact hs
        subst h44
        have hb := fields_sx k l []
        have hb' : fieldsGo (sx k l) [] = (fieldsGo l []).map (·.map upC) := hb
        rw [show upC 44 = 44 from by decide, show sepB 44 = true from by decide, if_pos rfl, if_pos rfl, hb']
        by_cases hc : cur = []
        · subst hc; simp
        · rw [if_neg hc, if_neg (by simpa using hc)]; rfl
      | false =>
        rw [upC_sep c hs, if_neg (by decide), if_neg (by decide)]
        have := fields_sx k l (cur ++ [c])
        rw [List.map_append, List.map_cons, List.map_nil] at this
        exact this
def Asc (l : L8) : Prop := ∀ c ∈ l, c.toNat < 128
theorem upC_asc (c : UInt8) (h : c.toNat < 128) : (upC c).toNat < 128 := by
  unfold upC
  split
  · rw [UInt8.toNat_ofNat']
    have hc := c.toNat_lt
    omega
  · exact h
theorem upM_asc : ∀ l : L8, Asc l → upM l = l.map upC
  | [], _ => rfl
  | c :: l, h => by
    have hc : c.toNat < 128 := h c (List.mem_cons_self ..)
    have ih := upM_asc l (fun x hx => h x (List.mem_cons_of_mem _ hx))
    unfold upM at ih ⊢
    rw [Lib.mapD_step _ _ (by simp), Lib.decodeL_ascii c l hc]
    have h0 : 0 ≤ upI ((c.toNat : Nat) : Int) := by unfold upI; split <;> omega
    rw [if_pos h0]
    show Lib.encodeRune (upI ((c.toNat : Nat) : Int)) ++ Lib.mapD upI l = _
    rw [ih, List.map_cons]
    have he : Lib.encodeRune (upI ((c.toNat : Nat) : Int)) = [upC c] := by
      have hall : ((List.range 128).all fun k => decide (Lib.encodeRune (upI (k : Int)) = [upC (UInt8.ofNat k)])) = true := by kernel_rfl
      have := of_decide_eq_true (List.all_eq_true.1 hall c.toNat (List.mem_range.2 hc))
      rw [this]
      simp
    rw [he]
    rfl
theorem upC_idem (c : UInt8) : upC (upC c) = upC c := by
  unfold upC
  have hc := c.toNat_lt
  by_cases h : 97 ≤ c.toNat ∧ c.toNat ≤ 122
  · rw [if_pos h, if_neg]
    rw [UInt8.toNat_ofNat']
    omega
  · rw [if_neg h, if_neg h]
theorem map_idem (l : L8) : (l.map upC).map upC = l.map upC := by
  rw [List.map_map]
  apply List.map_congr_left
  intro c _
  exact upC_idem c
theorem asc_up {l : L8} (h : Asc l) : Asc (l.map upC) := by
  intro c hc
  obtain ⟨b, hb, rfl⟩ := List.mem_map.1 hc
  exact upC_asc b (h b hb)
theorem upM_up {l : L8} (h : Asc l) : upM (l.map upC) = upM l := by rw [upM_asc _ (asc_up h), upM_asc l h, map_idem]
theorem begN_up {l : L8} (h : Asc l) (n : L8) : begN n (l.map upC) = begN n l := by
  unfold begN
  rw [upM_up h]
  cases l <;> rfl
theorem kindGo_up {l : L8} (h : Asc l) : ∀ (ns : List L8) (i : Int), kindGo (l.map upC) ns i = kindGo l ns i
  | [], _ => rfl
  | n :: ns, i => by
    unfold kindGo
    rw [begN_up h, kindGo_up h ns]
theorem up_same : upC = upB := by
  funext c
  rfl
theorem parseS_up (l : L8) : parseS ⟨(l.map upC).toArray⟩ = parseS ⟨l.toArray⟩ := by
  have h : upperS ⟨(l.map upC).toArray⟩ = upperS ⟨l.toArray⟩ := by
    apply ba_eq
    rw [upper_list, upper_list, Go.ByteArray.toList_eq, Go.ByteArray.toList_eq, ← up_same]
    exact map_idem l
  unfold parseS
  rw [h]
theorem callM_up (l : L8) : callM (l.map upC) = callM l := by
  unfold callM
  rw [parseS_up]
theorem itoa_up (v : Int) : (Lib.itoa v).map upC = Lib.itoa v := by
  have hd : ∀ u : Nat, (Lib.decDigits u).map upC = Lib.decDigits u := by
    intro u
    have : ∀ c ∈ Lib.decDigits u, 48 ≤ c.toNat ∧ c.toNat ≤ 57 := by
      obtain ⟨j, hj⟩ : ∃ j, u < 10 ^ (j + 1) := ⟨u, by
        have := Nat.lt_pow_self (n := u + 1) (a := 10) (by omega)
        omega⟩
      exact (dec_all j u hj).1
    conv => rhs; rw [← List.map_id (Lib.decDigits u)]
    apply List.map_congr_left
    intro c hc
    have := this c hc
    unfold upC
    rw [if_neg (by omega)]
    rfl
  unfold Lib.itoa
  split
  · rw [List.map_cons, hd]
    rfl
  · exact hd _
theorem numM_up {w : L8} {lo hi v : Int} (h : numM w lo hi = some v) : w.map upC = w := by
  unfold numM at h
  split at h
  · rename_i u hu
    split at h
    · rename_i hq
      rw [← hq.2.1, itoa_up]
    · cases h
  · cases h
theorem asc_sub {l q : L8} (h : Asc l) (hs : ∀ c ∈ q, c ∈ l) : Asc q := fun c hc => h c (hs c hc)
theorem nb_sub (l : L8) : ∀ c ∈ nb l, c ∈ l := by
  intro c hc
  unfold nb nbL nbR at hc
  have h1 := (List.dropWhile_sublist _).subset hc
  rw [List.mem_reverse] at h1
  have h2 := (List.dropWhile_sublist _).subset h1
  rwa [List.mem_reverse] at h2
theorem wd_sub (m : L8) : ∀ c ∈ wd m, c ∈ m := fun c hc => (List.takeWhile_sublist _).subset hc
theorem rs_sub (m : L8) : ∀ c ∈ rs m, c ∈ m := fun c hc => (List.dropWhile_sublist _).subset (nb_sub _ c hc)
theorem word_sx (k : Nat) {m w r : L8} (h : Asc m) (e : wordN m = .got w r) : wordN (sx k m) = .got (w.map upC) (sx k r) ∧ Asc w ∧ Asc r := by
  unfold wordN at e ⊢
  by_cases h0 : m = []
  · rw [if_pos h0] at e; cases e
  · rw [if_neg h0] at e
    injection e with e1 e2
    subst e1; subst e2
    rw [if_neg (by rw [sx_eq_nil]; exact h0), show wd (sx k m) = (wd m).map upC from (wd_sx k m).1, rs_sx]
    exact ⟨rfl, asc_sub h (wd_sub m), asc_sub h (rs_sub m)⟩
theorem word_cases {α : Type} {m : L8} {f : L8 → L8 → Rd α} {a : α} {q : L8} (e : (wordN m).bind f = .got a q) : ∃ w r, wordN m = .got w r ∧ f w r = .got a q := by
  cases hw : wordN m with
  | got w r => rw [hw] at e; exact ⟨w, r, rfl, e⟩
  | bad x => rw [hw] at e; cases e
theorem call_sx (k : Nat) {m r : L8} {c : ByteArray × Int} (h : Asc m) (e : callN m = .got c r) : callN (sx k m) = .got c (sx k r) ∧ Asc r := by
  obtain ⟨w, q, hw, hf⟩ := word_cases e
  obtain ⟨h1, h2, h3⟩ := word_sx k h hw
  unfold callN
  rw [h1]
  show (match callM (w.map upC) with | some c => Rd.got c (sx k q) | none => Rd.bad 12) = _ ∧ _
  rw [callM_up]
  cases hc : callM w with
  | none => rw [hc] at hf; cases hf
  | some d =>
    rw [hc] at hf
    injection hf with e1 e2
    subst e1; subst e2
    exact ⟨rfl, h3⟩
theorem num_sx (k : Nat) {m r : L8} {lo hi v : Int} (h : Asc m) (e : numN lo hi m = .got v r) : numN lo hi (sx k m) = .got v (sx k r) ∧ Asc r := by
  obtain ⟨w, q, hw, hf⟩ := word_cases e
  obtain ⟨h1, h2, h3⟩ := word_sx k h hw
  unfold numN
  rw [h1]
  show (match numM (w.map upC) lo hi with | some v => Rd.got v (sx k q) | none => Rd.bad 1) = _ ∧ _
  cases hc : numM w lo hi with
  | none => rw [hc] at hf; cases hf
  | some d =>
    rw [numM_up hc, hc]
    rw [hc] at hf
    injection hf with e1 e2
    subst e1; subst e2
    exact ⟨rfl, h3⟩
theorem via_list : ∀ (l : List L8) (i : Nat) (out : List (ByteArray × Int)), viaGo (l.map (·.map upC)) i out = viaGo l i out
  | [], _, _ => rfl
  | w :: l, i, out => by
    rw [List.map_cons]
    unfold viaGo
    rw [callM_up]
    cases callM w with
    | none => rfl
    | some c =>
      simp only
      rw [via_list l]
theorem via_rest : ∀ (l : List L8) (i : Nat) (out v : List (ByteArray × Int)) (r : L8), viaGo l i out = .got v r → r = []
  | [], _, _, v, r, h => by
    unfold viaGo at h
    injection h with _ h2
    exact h2.symm
  | w :: l, i, out, v, r, h => by
    unfold viaGo at h
    cases hc : callM w with
    | none => rw [hc] at h; cases h
    | some c =>
      rw [hc] at h
      simp only at h
      split at h
      · exact via_rest l _ _ _ _ h
      · cases h
theorem via_sx (k : Nat) {m r : L8} {v : List (ByteArray × Int)} (h : Asc m) (e : viaN m = .got v r) : viaN (sx k m) = .got v (sx k r) ∧ Asc r := by
  obtain ⟨w, q, hw, hf⟩ := word_cases e
  obtain ⟨h1, h2, h3⟩ := word_sx k h hw
  unfold viaN
  rw [h1]
  show (if begN [86, 73, 65] (w.map upC) = true then (if fieldsB (sx k q) = [] then Rd.bad 4 else viaGo (fieldsB (sx k q)) 0 []) else Rd.bad 2) = _ ∧ _
  have hfs : fieldsB (sx k q) = (fieldsB q).map (·.map upC) := fields_sx k q []
  rw [begN_up h2, hfs, via_list]
  by_cases hb : begN [86, 73, 65] w = true
  · rw [if_pos hb] at hf ⊢
    by_cases hq : fieldsB q = []
    · rw [if_pos hq] at hf; cases hf
    · rw [if_neg hq] at hf
      rw [if_neg (by simpa using hq), hf]
      have := via_rest _ _ _ _ _ hf
      subst this
      exact ⟨rfl, fun c hc => by cases hc⟩
  · rw [if_neg hb] at hf; cases hf
theorem on_sx (k : Nat) {m r : L8} {v : Int} (h : Asc m) (e : onN m = .got v r) : onN (sx k m) = .got v (sx k r) ∧ Asc r := by
  obtain ⟨w, q, hw, hf⟩ := word_cases e
  obtain ⟨h1, h2, h3⟩ := word_sx k h hw
  unfold onN
  rw [h1]
  show (if upM (w.map upC) = [79, 78] then Rd.got 1 (sx k q) else if upM (w.map upC) = [79, 70, 70] then Rd.got 0 (sx k q) else Rd.bad 2) = _ ∧ _
  rw [upM_up h2]
  by_cases ha : upM w = [79, 78]
  · rw [if_pos ha] at hf ⊢
    injection hf with e1 e2
    subst e1; subst e2
    exact ⟨rfl, h3⟩
  · rw [if_neg ha] at hf ⊢
    by_cases hb : upM w = [79, 70, 70]
    · rw [if_pos hb] at hf ⊢
      injection hf with e1 e2
      subst e1; subst e2
      exact ⟨rfl, h3⟩
    · rw [if_neg hb] at hf; cases hf
theorem text_sx (k : Nat) {m r t : L8} (e : textN m = .got t r) : textN (sx k m) = .got (sx k t) [] ∧ r = [] ∧ t ≠ [] := by
  unfold textN at e ⊢
  by_cases h0 : m = []
  · rw [if_pos h0] at e; cases e
  · rw [if_neg h0] at e
    injection e with e1 e2
    subst e1
    rw [if_neg (by rw [sx_eq_nil]; exact h0)]
    exact ⟨rfl, e2.symm, h0⟩
theorem bea_sx (k : Nat) {m r : L8} {p : Int × L8} (h : Asc m) (e : beaN m = .got p r) : ∃ t, beaN (sx k m) = .got (p.1, t) (sx k r) ∧ Asc r ∧ (p.2 = [] → t = []) := by
  obtain ⟨w, q, hw, hf⟩ := word_cases e
  obtain ⟨h1, h2, h3⟩ := word_sx k h hw
  unfold beaN
  rw [h1]
  show ∃ t, (if upM (w.map upC) = [79, 70, 70] then Rd.got (0, []) (sx k q) else match numM (w.map upC) 1 10000 with | none => Rd.bad 1 | some v => (textN (sx k q)).bind fun t z => Rd.got (v, t) z) = _ ∧ _
  rw [upM_up h2]
  by_cases hb : upM w = [79, 70, 70]
  · rw [if_pos hb] at hf ⊢
    injection hf with e1 e2
    subst e1; subst e2
    exact ⟨[], rfl, h3, fun _ => rfl⟩
  · rw [if_neg hb] at hf ⊢
    cases hc : numM w 1 10000 with
    | none => rw [hc] at hf; cases hf
    | some d =>
      rw [numM_up hc, hc]
      rw [hc] at hf
      simp only at hf ⊢
      cases ht : textN q with
      | bad x => rw [ht] at hf; cases hf
      | got t z =>
        rw [ht] at hf
        obtain ⟨g1, g2, g3⟩ := text_sx k ht
        injection hf with e1 e2
        subst e1; subst e2; subst g2
        rw [g1]
        exact ⟨sx k t, rfl, (fun c hc => by cases hc), fun h => absurd h g3⟩
def Alike (c d : CmdM) : Prop := d.k = c.k ∧ d.n = c.n ∧ d.dst = c.dst ∧ d.via = c.via ∧ (c.text = [] → d.text = [])
theorem body_sx (k : Nat) {m r : L8} {c : CmdM} (h : Asc m) (kd : Int) (e : bodyN kd m = .got c r) : ∃ d, bodyN kd (sx k m) = .got d (sx k r) ∧ Alike c d ∧ Asc r := by
  unfold bodyN at e ⊢
  by_cases k0 : kd = 0
  · rw [if_pos k0] at e; cases e
  rw [if_neg k0] at e ⊢
  by_cases k1 : kd = 1 ∨ kd = 5
  · rw [if_pos k1] at e ⊢
    cases hc : callN m with
    | bad x => rw [hc] at e; cases e
    | got a q =>
      rw [hc] at e
      obtain ⟨g1, g2⟩ := call_sx k h hc
      rw [g1]
      show ∃ d, (if sx k q = [] then Rd.got { cmd0 kd with dst := a } (sx k q) else (viaN (sx k q)).bind fun v z => Rd.got { cmd0 kd with dst := a, via := v } z) = _ ∧ _
      have e' : (if q = [] then Rd.got { cmd0 kd with dst := a } q else (viaN q).bind fun v z => Rd.got { cmd0 kd with dst := a, via := v } z) = .got c r := e
      by_cases hq : q = []
      · rw [if_pos hq] at e'
        rw [if_pos (by rw [sx_eq_nil]; exact hq)]
        injection e' with e1 e2
        subst e1; subst e2
        exact ⟨_, rfl, ⟨rfl, rfl, rfl, rfl, fun h => h⟩, g2⟩
      · rw [if_neg hq] at e'
        rw [if_neg (by rw [sx_eq_nil]; exact hq)]
        cases hv : viaN q with
        | bad x => rw [hv] at e'; cases e'
        | got v z =>
          rw [hv] at e'
          obtain ⟨g3, g4⟩ := via_sx k g2 hv
          rw [g3]
          injection e' with e1 e2
          subst e1; subst e2
          exact ⟨_, rfl, ⟨rfl, rfl, rfl, rfl, fun h => h⟩, g4⟩
  rw [if_neg k1] at e ⊢
  by_cases k6 : kd = 6
  · rw [if_pos k6] at e ⊢
    cases hc : beaN m with
    | bad x => rw [hc] at e; cases e
    | got a q =>
      rw [hc] at e
      obtain ⟨t, g1, g2, g3⟩ := bea_sx k h hc
      rw [g1]
      injection e with e1 e2
      subst e1; subst e2
      exact ⟨_, rfl, ⟨rfl, rfl, rfl, rfl, g3⟩, g2⟩
  rw [if_neg k6] at e ⊢
  by_cases k13 : kd = 13
  · rw [if_pos k13] at e ⊢
    cases hc : textN m with
    | bad x => rw [hc] at e; cases e
    | got a q =>
      rw [hc] at e
      obtain ⟨g1, g2, g3⟩ := text_sx k hc
      rw [g1]
      injection e with e1 e2
      subst e1; subst e2; subst g2
      exact ⟨_, rfl, ⟨rfl, rfl, rfl, rfl, fun h => absurd h g3⟩, fun c hc => by cases hc⟩
  rw [if_neg k13] at e ⊢
  by_cases k15 : kd = 15 ∨ kd = 17
  · rw [if_pos k15] at e ⊢
    cases hc : onN m with
    | bad x => rw [hc] at e; cases e
    | got a q =>
      rw [hc] at e
      obtain ⟨g1, g2⟩ := on_sx k h hc
      rw [g1]
      injection e with e1 e2
      subst e1; subst e2
      exact ⟨_, rfl, ⟨rfl, rfl, rfl, rfl, fun h => h⟩, g2⟩
  rw [if_neg k15] at e ⊢
  cases hb : bndN kd with
  | none =>
    rw [hb] at e
    injection e with e1 e2
    subst e1; subst e2
    exact ⟨_, rfl, ⟨rfl, rfl, rfl, rfl, fun h => h⟩, h⟩
  | some p =>
    rw [hb] at e
    simp only at e ⊢
    cases hc : numN p.1 p.2 m with
    | bad x => rw [hc] at e; cases e
    | got a q =>
      rw [hc] at e
      obtain ⟨g1, g2⟩ := num_sx k h hc
      rw [g1]
      injection e with e1 e2
      subst e1; subst e2
      exact ⟨_, rfl, ⟨rfl, rfl, rfl, rfl, fun h => h⟩, g2⟩
/-- No error is 0. -/
def NZ {α : Type} (x : Rd α) : Prop := ∀ e, x = .bad e → e ≠ 0
theorem nz_got {α : Type} (a : α) (r : L8) : NZ (.got a r) := fun e h => by cases h
theorem nz_bad {α : Type} {e : Int} (h : e ≠ 0) : NZ (.bad e : Rd α) := fun x hx => by injection hx with h1; rw [← h1]; exact h
theorem nz_bind {α β : Type} {x : Rd α} {f : α → L8 → Rd β} (hx : NZ x) (hf : ∀ a r, NZ (f a r)) : NZ (x.bind f) := by
  cases x with
  | got a r => exact hf a r
  | bad e => exact nz_bad (hx e rfl)
theorem nz_word (m : L8) : NZ (wordN m) := by
  unfold wordN
  split
  · exact nz_bad (by decide)
  · exact nz_got _ _
theorem nz_num (lo hi : Int) (m : L8) : NZ (numN lo hi m) := nz_bind (nz_word m) fun w r => by
  split
  · exact nz_got _ _
  · exact nz_bad (by decide)
theorem nz_call (m : L8) : NZ (callN m) := nz_bind (nz_word m) fun w r => by
  split
  · exact nz_got _ _
  · exact nz_bad (by decide)
theorem nz_text (m : L8) : NZ (textN m) := by
  unfold textN
  split
  · exact nz_bad (by decide)
  · exact nz_got _ _
theorem nz_viaGo : ∀ (l : List L8) (i : Nat) (out : List (ByteArray × Int)), NZ (viaGo l i out)
  | [], _, _ => nz_got _ _
  | w :: l, i, out => by
    unfold viaGo
    split
    · exact nz_bad (by decide)
    · split
      · exact nz_viaGo l _ _
      · exact nz_bad (by decide)
theorem nz_via (m : L8) : NZ (viaN m) := nz_bind (nz_word m) fun w r => by
  split
  · split
    · exact nz_bad (by decide)
    · exact nz_viaGo _ _ _
  · exact nz_bad (by decide)
theorem nz_on (m : L8) : NZ (onN m) := nz_bind (nz_word m) fun w r => by
  split
  · exact nz_got _ _
  · split
    · exact nz_got _ _
    · exact nz_bad (by decide)
theorem nz_bea (m : L8) : NZ (beaN m) := nz_bind (nz_word m) fun w r => by
  split
  · exact nz_got _ _
  · split
    · exact nz_bad (by decide)
    · exact nz_bind (nz_text r) fun t q => nz_got _ _
theorem nz_body (k : Int) (r : L8) : NZ (bodyN k r) := by
  unfold bodyN
  split
  · exact nz_bad (by decide)
  · split
    · exact nz_bind (nz_call r) fun c q => by
        split
        · exact nz_got _ _
        · exact nz_bind (nz_via q) fun v z => nz_got _ _
    · split
      · exact nz_bind (nz_bea r) fun p q => nz_got _ _
      · split
        · exact nz_bind (nz_text r) fun t q => nz_got _ _
        · split
          · exact nz_bind (nz_on r) fun v q => nz_got _ _
          · split
            · exact nz_bind (nz_num _ _ r) fun v q => nz_got _ _
            · exact nz_got _ _
theorem nz_read (m : L8) : NZ (readN m) := by
  unfold readN
  split
  · exact nz_bad (by decide)
  · exact nz_bind (nz_word m) fun w r => nz_bind (nz_body _ r) fun c q => by
      split
      · exact nz_got _ _
      · exact nz_bad (by decide)
theorem parse_sx (k : Nat) (s : L8) (h : Asc s) (e : (parseN s).2 = 0) : (parseN (sx k s)).2 = 0 ∧ Alike (parseN s).1 (parseN (sx k s)).1 := by
  unfold parseN at e ⊢
  rw [nb_sx]
  have hm : Asc (nb s) := asc_sub h (nb_sub s)
  generalize nb s = m at e hm ⊢
  cases hr : readN m with
  | bad x =>
    rw [hr] at e
    exact absurd e (nz_read m x hr)
  | got c r =>
    unfold readN at hr ⊢
    by_cases h0 : m = []
    · rw [if_pos h0] at hr; cases hr
    · rw [if_neg h0] at hr
      rw [if_neg (by rw [sx_eq_nil]; exact h0)]
      obtain ⟨w, q, hw, hf⟩ := word_cases hr
      obtain ⟨g1, g2, g3⟩ := word_sx k hm hw
      rw [g1]
      cases hb : bodyN (kindN w) q with
      | bad x => rw [hb] at hf; cases hf
      | got d z =>
        rw [hb] at hf
        have hk : kindN (w.map upC) = kindN w := kindGo_up g2 namesN 1
        obtain ⟨d', g4, g5, g6⟩ := body_sx k g3 _ hb
        show ((match ((bodyN (kindN (w.map upC)) (sx k q)).bind fun c q => if q = [] then Rd.got c q else Rd.bad 5) with | .got c _ => (c, (0 : Int)) | .bad e => (cmd0 0, e)).2 = 0) ∧ _
        rw [hk, g4]
        have hf' : (if z = [] then Rd.got d z else Rd.bad 5) = .got c r := hf
        by_cases hz : z = []
        · rw [if_pos hz] at hf'
          injection hf' with e1 e2
          subst e1
          have hz' : sx k z = [] := by rw [sx_eq_nil]; exact hz
          simp only [Rd.bind, hk, g4, hz', if_true]
          exact ⟨trivial, g5⟩
        · rw [if_neg hz] at hf'; cases hf'
end Go.Proofs.YtgaboenipiojoaaGreatDoor.Pure
end

section
/- Walks, written by a program of this session (wip/pp): a Go function comes to what the Lean function beside it tells. -/
namespace Go.Proofs.YtgaboenipiojoaaGreatDoor.QAll
open Go.RowKit Go.Proofs.YtgaboenipiojoaaGreatDoorW.PrintWords Go.Proofs.YtgaboenipiojoaaGreatDoorW.PrintLast Go.Proofs.YtgaboenipiojoaaGreatDoorW.PrintMore
attribute [local go_sem] max2_int min2_int max_two min_two max_three min_three max_four min_four
set_option linter.unusedVariables false
set_option linter.unusedSimpArgs false

theorem eqA29 (d : Nat) (w : World) (x0 y0 : ByteArray) (x1 y1 : Int) :
  (Op.equalIn (d + 2) 29 (.agg #[.string x0, .int .i64 x1]) (.agg #[.string y0, .int .i64 y1])).run Tryz.prog w = .ok (x0.toList == y0.toList && (x1 == y1)) w := by
 refine eqA_of Tryz.underlying29 (by kernel_rfl) ?_
 refine eqf_cons (by rfl) (by go_simp; rfl) (by go_simp; rfl) (by go_simp) ?_
 exact eqf_last (by rfl) (by go_simp; rfl) (by go_simp; rfl) (by go_simp)
end Go.Proofs.YtgaboenipiojoaaGreatDoor.QAll
end

section
/- Walks, written by a program of this session (wip/pp): a Go function comes to what the Lean function beside it tells. -/
namespace Go.Proofs.YtgaboenipiojoaaGreatDoor.QAll
open Go.RowKit Go.Proofs.YtgaboenipiojoaaGreatDoorW.PrintWords Go.Proofs.YtgaboenipiojoaaGreatDoorW.PrintLast Go.Proofs.YtgaboenipiojoaaGreatDoorW.PrintMore
attribute [local go_sem] max2_int min2_int max_two min_two max_three min_three max_four min_four
set_option linter.unusedVariables false
set_option linter.unusedSimpArgs false

attribute [local go_sem high] eqA29
mutual
def squelchref25_Same.j0 : Nat → Bool → Int → Int → ByteArray → Int → List (S29) → ByteArray → Int → Int → ByteArray → Int → List (S29) → ByteArray → Option (Bool)
 | 0, _, _, _, _, _, _, _, _, _, _, _, _, _ => none
 | k + 1, x40, x193000, x193001, x193002, x193003, x193004, x193005, x194000, x194001, x194002, x194003, x194004, x194005 => if x40 = true then (some false) else (squelchref25_Same.l0 k 0 x193000 x193001 x193002 x193003 x193004 x193005 x194000 x194001 x194002 x194003 x194004 x194005)
def squelchref25_Same.l0 : Nat → Int → Int → Int → ByteArray → Int → List (S29) → ByteArray → Int → Int → ByteArray → Int → List (S29) → ByteArray → Option (Bool)
 | 0, _, _, _, _, _, _, _, _, _, _, _, _, _ => none
 | k + 1, x5, x193000, x193001, x193002, x193003, x193004, x193005, x194000, x194001, x194002, x194003, x194004, x194005 => if x5 < (x193004.length : Int) then (if 0 ≤ x5 then (if x5 < (x194004.length : Int) then (if (!((((rd_T29 x193004 x5).f0).toList) == (((rd_T29 x194004 x5).f0).toList)) || (!(((rd_T29 x193004 x5).f1) == ((rd_T29 x194004 x5).f1)))) = true then (some false) else (squelchref25_Same.l0 k (wrap64 (x5 + 1)) x193000 x193001 x193002 x193003 x193004 x193005 x194000 x194001 x194002 x194003 x194004 x194005)) else (none)) else (none)) else (some true)
end
def squelchref25_Same.f (k : Nat) (a0_0 : Int) (a0_1 : Int) (a0_2 : ByteArray) (a0_3 : Int) (l0_4 : List (S29)) (a0_5 : ByteArray) (a1_0 : Int) (a1_1 : Int) (a1_2 : ByteArray) (a1_3 : Int) (l1_4 : List (S29)) (a1_5 : ByteArray) : Option (Bool) := if a0_0 = a1_0 then (if a0_1 = a1_1 then (if (!(a0_2.toList == a1_2.toList) || (!(a0_3 == a1_3))) = true then (squelchref25_Same.j0 k true a0_0 a0_1 a0_2 a0_3 l0_4 a0_5 a1_0 a1_1 a1_2 a1_3 l1_4 a1_5) else (if a0_5.toList = a1_5.toList then (squelchref25_Same.j0 k ((l0_4.length : Int) != (l1_4.length : Int)) a0_0 a0_1 a0_2 a0_3 l0_4 a0_5 a1_0 a1_1 a1_2 a1_3 l1_4 a1_5) else (squelchref25_Same.j0 k true a0_0 a0_1 a0_2 a0_3 l0_4 a0_5 a1_0 a1_1 a1_2 a1_3 l1_4 a1_5))) else (squelchref25_Same.j0 k true a0_0 a0_1 a0_2 a0_3 l0_4 a0_5 a1_0 a1_1 a1_2 a1_3 l1_4 a1_5)) else (squelchref25_Same.j0 k true a0_0 a0_1 a0_2 a0_3 l0_4 a0_5 a1_0 a1_1 a1_2 a1_3 l1_4 a1_5)
set_option maxHeartbeats 8000000 in
set_option maxRecDepth 100000 in
theorem squelchref25_Same.calls (k : Nat) (a0_0 : Int) (a0_1 : Int) (a0_2 : ByteArray) (a0_3 : Int) (A0_4 : Option Addr) (c0_4 : Nat) (l0_4 : List (S29)) (a0_5 : ByteArray) (a1_0 : Int) (a1_1 : Int) (a1_2 : ByteArray) (a1_3 : Int) (A1_4 : Option Addr) (c1_4 : Nat) (l1_4 : List (S29)) (a1_5 : ByteArray) (r : Bool) (w : World) (hr0_4 : Kd.C k29 w A0_4 l0_4.length l0_4) (hc0_4 : l0_4.length ≤ c0_4) (hr1_4 : Kd.C k29 w A1_4 l1_4.length l1_4) (hc1_4 : l1_4.length ≤ c1_4) (h : squelchref25_Same.f k a0_0 a0_1 a0_2 a0_3 l0_4 a0_5 a1_0 a1_1 a1_2 a1_3 l1_4 a1_5 = some r) :
  Calls Tryz.prog 14 #[.agg #[.int .i64 a0_0, .int .i64 a0_1, .string a0_2, .int .i64 a0_3, .slice A0_4 l0_4.length c0_4, .string a0_5], .agg #[.int .i64 a1_0, .int .i64 a1_1, .string a1_2, .int .i64 a1_3, .slice A1_4 l1_4.length c1_4, .string a1_5]] w fun e w' => e = .returned (.bool r) ∧ Below w.heap.size w w' := by
 have hu40 := Tryz.underlying40
 have hu29 := Tryz.underlying29
 have HR0_4 := Aside0.mk hr0_4
 have HC0_4 := Aside0.mk hc0_4
 clear hr0_4 hc0_4
 have HR1_4 := Aside0.mk hr1_4
 have HC1_4 := Aside0.mk hc1_4
 clear hr1_4 hc1_4
 have HB := Aside0.mk (Below.refl w.heap.size w)
 have H : (if a0_0 = a1_0 then (if a0_1 = a1_1 then (if (!(a0_2.toList == a1_2.toList) || (!(a0_3 == a1_3))) = true then (squelchref25_Same.j0 k true a0_0 a0_1 a0_2 a0_3 l0_4 a0_5 a1_0 a1_1 a1_2 a1_3 l1_4 a1_5) else (if a0_5.toList = a1_5.toList then (squelchref25_Same.j0 k ((l0_4.length : Int) != (l1_4.length : Int)) a0_0 a0_1 a0_2 a0_3 l0_4 a0_5 a1_0 a1_1 a1_2 a1_3 l1_4 a1_5) else (squelchref25_Same.j0 k true a0_0 a0_1 a0_2 a0_3 l0_4 a0_5 a1_0 a1_1 a1_2 a1_3 l1_4 a1_5))) else (squelchref25_Same.j0 k true a0_0 a0_1 a0_2 a0_3 l0_4 a0_5 a1_0 a1_1 a1_2 a1_3 l1_4 a1_5)) else (squelchref25_Same.j0 k true a0_0 a0_1 a0_2 a0_3 l0_4 a0_5 a1_0 a1_1 a1_2 a1_3 l1_4 a1_5)) = some r := h
 clear h
 have HC3 := Aside0.mk H
 clear H
 go_enter Tryz.func14, Tryz.ntmps14
 go_upto_region 1 with (first | ((with_reducible refine gate_dst (N := 2) rfl ?_); (try (refine gate_guard (by rfl) ?_; dsimp only)); refine box_event ?hg (N := 2) ?hd (cs := #[.int .i64 a0_0, .int .i64 a0_1, .string a0_2, .int .i64 a0_3, .slice A0_4 l0_4.length c0_4, .string a0_5]) (t := 40) ?hr ?_; (case hd => rfl); (case hg => rfl); (case hr => first | (go_simp; done) | (go_simp; rfl)); intro gb192 hg w4 hbox hb; have n0_ := Aside0.mk (below_step (by repeat (first | (with_reducible first | exact HB.out | apply below_alloc | apply pw_below_drewN | apply below_drew1) | exact HB.out)) hb); have n1_ := Aside0.mk (hbox); have n2_ := Aside0.mk ((by rw [hg]; exact (below_size (by repeat (first | (with_reducible first | exact HB.out | apply below_alloc | apply pw_below_drewN | apply below_drew1) | exact HB.out))) : w.heap.size ≤ gb192)); have n3_ := Aside0.mk ((by rw [hg]; exact (below_size (by repeat (first | (with_reducible first | exact HB.out | apply below_alloc | apply pw_below_drewN | apply below_drew1) | exact HB.out))) : w.heap.size ≤ gb192)); clear HB; have HB := n0_; have BK192 := n1_; have GW192 := n2_; have GE192 := n3_; clear n0_ n1_ n2_ n3_; clear hb hbox hg) | ((with_reducible refine gate_dst (N := 3) rfl ?_); (try (refine gate_guard (by rfl) ?_; dsimp only)); refine box_event ?hg (N := 3) ?hd (cs := #[.int .i64 a1_0, .int .i64 a1_1, .string a1_2, .int .i64 a1_3, .slice A1_4 l1_4.length c1_4, .string a1_5]) (t := 40) ?hr ?_; (case hd => rfl); (case hg => rfl); (case hr => first | (go_simp; done) | (go_simp; rfl)); intro gb193 hg w5 hbox hb; have n0_ := Aside0.mk (blk_below (g := gb192) (o := .cells #[.int .i64 a0_0, .int .i64 a0_1, .string a0_2, .int .i64 a0_3, .slice A0_4 l0_4.length c0_4, .string a0_5] 40 (0, 0)) (by (with_reducible repeat (first | refine blk_drewN ?_ _ | refine blk_drew ?_ | refine blk_alloc ?_ _)); exact BK192.out) hb); have n1_ := Aside0.mk (below_step (by repeat (first | (with_reducible first | exact HB.out | apply below_alloc | apply pw_below_drewN | apply below_drew1 | refine below_set ?_ GE192.out) | exact HB.out)) hb); have n2_ := Aside0.mk (hbox); have n3_ := Aside0.mk ((by rw [hg]; exact (below_size (by repeat (first | (with_reducible first | exact HB.out | apply below_alloc | apply pw_below_drewN | apply below_drew1 | refine below_set ?_ GE192.out) | exact HB.out))) : w.heap.size ≤ gb193)); have n4_ := Aside0.mk ((by rw [hg]; exact (below_size (by repeat (first | (with_reducible first | exact HB.out | apply below_alloc | apply pw_below_drewN | apply below_drew1 | refine below_set ?_ GE192.out) | exact HB.out))) : w.heap.size ≤ gb193)); have n5_ := Aside0.mk ((by rw [hg]; exact Nat.ne_of_lt (blk_lt (g := gb192) (o := .cells #[.int .i64 a0_0, .int .i64 a0_1, .string a0_2, .int .i64 a0_3, .slice A0_4 l0_4.length c0_4, .string a0_5] 40 (0, 0)) (by (with_reducible repeat (first | refine blk_drewN ?_ _ | refine blk_drew ?_ | refine blk_alloc ?_ _)); exact BK192.out)) : gb192 ≠ gb193)); have n6_ := Aside0.mk ((by rw [hg]; exact Nat.ne_of_gt (blk_lt (g := gb192) (o := .cells #[.int .i64 a0_0, .int .i64 a0_1, .string a0_2, .int .i64 a0_3, .slice A0_4 l0_4.length c0_4, .string a0_5] 40 (0, 0)) (by (with_reducible repeat (first | refine blk_drewN ?_ _ | refine blk_drew ?_ | refine blk_alloc ?_ _)); exact BK192.out)) : gb193 ≠ gb192)); clear BK192; clear HB; have BK192 := n0_; have HB := n1_; have BK193 := n2_; have GW193 := n3_; have GE193 := n4_; have NB192_193 := n5_; have NB193_192 := n6_; clear n0_ n1_ n2_ n3_ n4_ n5_ n6_; clear hb hbox hg))
 repeat (go_quiet (first | ((with_reducible refine gate_dst (N := 2) rfl ?_); (try (refine gate_guard (by rfl) ?_; dsimp only)); refine box_event ?hg (N := 2) ?hd (cs := #[.int .i64 a0_0, .int .i64 a0_1, .string a0_2, .int .i64 a0_3, .slice A0_4 l0_4.length c0_4, .string a0_5]) (t := 40) ?hr ?_; (case hd => rfl); (case hg => rfl); (case hr => first | (go_simp; done) | (go_simp; rfl)); intro gb192 hg w4 hbox hb; have n0_ := Aside0.mk (below_step (by repeat (first | (with_reducible first | exact HB.out | apply below_alloc | apply pw_below_drewN | apply below_drew1) | exact HB.out)) hb); have n1_ := Aside0.mk (hbox); have n2_ := Aside0.mk ((by rw [hg]; exact (below_size (by repeat (first | (with_reducible first | exact HB.out | apply below_alloc | apply pw_below_drewN | apply below_drew1) | exact HB.out))) : w.heap.size ≤ gb192)); have n3_ := Aside0.mk ((by rw [hg]; exact (below_size (by repeat (first | (with_reducible first | exact HB.out | apply below_alloc | apply pw_below_drewN | apply below_drew1) | exact HB.out))) : w.heap.size ≤ gb192)); clear HB; have HB := n0_; have BK192 := n1_; have GW192 := n2_; have GE192 := n3_; clear n0_ n1_ n2_ n3_; clear hb hbox hg) | ((with_reducible refine gate_dst (N := 3) rfl ?_); (try (refine gate_guard (by rfl) ?_; dsimp only)); refine box_event ?hg (N := 3) ?hd (cs := #[.int .i64 a1_0, .int .i64 a1_1, .string a1_2, .int .i64 a1_3, .slice A1_4 l1_4.length c1_4, .string a1_5]) (t := 40) ?hr ?_; (case hd => rfl); (case hg => rfl); (case hr => first | (go_simp; done) | (go_simp; rfl)); intro gb193 hg w5 hbox hb; have n0_ := Aside0.mk (blk_below (g := gb192) (o := .cells #[.int .i64 a0_0, .int .i64 a0_1, .string a0_2, .int .i64 a0_3, .slice A0_4 l0_4.length c0_4, .string a0_5] 40 (0, 0)) (by (with_reducible repeat (first | refine blk_drewN ?_ _ | refine blk_drew ?_ | refine blk_alloc ?_ _)); exact BK192.out) hb); have n1_ := Aside0.mk (below_step (by repeat (first | (with_reducible first | exact HB.out | apply below_alloc | apply pw_below_drewN | apply below_drew1 | refine below_set ?_ GE192.out) | exact HB.out)) hb); have n2_ := Aside0.mk (hbox); have n3_ := Aside0.mk ((by rw [hg]; exact (below_size (by repeat (first | (with_reducible first | exact HB.out | apply below_alloc | apply pw_below_drewN | apply below_drew1 | refine below_set ?_ GE192.out) | exact HB.out))) : w.heap.size ≤ gb193)); have n4_ := Aside0.mk ((by rw [hg]; exact (below_size (by repeat (first | (with_reducible first | exact HB.out | apply below_alloc | apply pw_below_drewN | apply below_drew1 | refine below_set ?_ GE192.out) | exact HB.out))) : w.heap.size ≤ gb193)); have n5_ := Aside0.mk ((by rw [hg]; exact Nat.ne_of_lt (blk_lt (g := gb192) (o := .cells #[.int .i64 a0_0, .int .i64 a0_1, .string a0_2, .int .i64 a0_3, .slice A0_4 l0_4.length c0_4, .string a0_5] 40 (0, 0)) (by (with_reducible repeat (first | refine blk_drewN ?_ _ | refine blk_drew ?_ | refine blk_alloc ?_ _)); exact BK192.out)) : gb192 ≠ gb193)); have n6_ := Aside0.mk ((by rw [hg]; exact Nat.ne_of_gt (blk_lt (g := gb192) (o := .cells #[.int .i64 a0_0, .int .i64 a0_1, .string a0_2, .int .i64 a0_3, .slice A0_4 l0_4.length c0_4, .string a0_5] 40 (0, 0)) (by (with_reducible repeat (first | refine blk_drewN ?_ _ | refine blk_drew ?_ | refine blk_alloc ?_ _)); exact BK192.out)) : gb193 ≠ gb192)); clear BK192; clear HB; have BK192 := n0_; have HB := n1_; have BK193 := n2_; have GW193 := n3_; have GE193 := n4_; have NB192_193 := n5_; have NB193_192 := n6_; clear n0_ n1_ n2_ n3_ n4_ n5_ n6_; clear hb hbox hg)); go_upto_region 1 with (first | ((with_reducible refine gate_dst (N := 2) rfl ?_); (try (refine gate_guard (by rfl) ?_; dsimp only)); refine box_event ?hg (N := 2) ?hd (cs := #[.int .i64 a0_0, .int .i64 a0_1, .string a0_2, .int .i64 a0_3, .slice A0_4 l0_4.length c0_4, .string a0_5]) (t := 40) ?hr ?_; (case hd => rfl); (case hg => rfl); (case hr => first | (go_simp; done) | (go_simp; rfl)); intro gb192 hg w4 hbox hb; have n0_ := Aside0.mk (below_step (by repeat (first | (with_reducible first | exact HB.out | apply below_alloc | apply pw_below_drewN | apply below_drew1) | exact HB.out)) hb); have n1_ := Aside0.mk (hbox); have n2_ := Aside0.mk ((by rw [hg]; exact (below_size (by repeat (first | (with_reducible first | exact HB.out | apply below_alloc | apply pw_below_drewN | apply below_drew1) | exact HB.out))) : w.heap.size ≤ gb192)); have n3_ := Aside0.mk ((by rw [hg]; exact (below_size (by repeat (first | (with_reducible first | exact HB.out | apply below_alloc | apply pw_below_drewN | apply below_drew1) | exact HB.out))) : w.heap.size ≤ gb192)); clear HB; have HB := n0_; have BK192 := n1_; have GW192 := n2_; have GE192 := n3_; clear n0_ n1_ n2_ n3_; clear hb hbox hg) | ((with_reducible refine gate_dst (N := 3) rfl ?_); (try (refine gate_guard (by rfl) ?_; dsimp only)); refine box_event ?hg (N := 3) ?hd (cs := #[.int .i64 a1_0, .int .i64 a1_1, .string a1_2, .int .i64 a1_3, .slice A1_4 l1_4.length c1_4, .string a1_5]) (t := 40) ?hr ?_; (case hd => rfl); (case hg => rfl); (case hr => first | (go_simp; done) | (go_simp; rfl)); intro gb193 hg w5 hbox hb; have n0_ := Aside0.mk (blk_below (g := gb192) (o := .cells #[.int .i64 a0_0, .int .i64 a0_1, .string a0_2, .int .i64 a0_3, .slice A0_4 l0_4.length c0_4, .string a0_5] 40 (0, 0)) (by (with_reducible repeat (first | refine blk_drewN ?_ _ | refine blk_drew ?_ | refine blk_alloc ?_ _)); exact BK192.out) hb); have n1_ := Aside0.mk (below_step (by repeat (first | (with_reducible first | exact HB.out | apply below_alloc | apply pw_below_drewN | apply below_drew1 | refine below_set ?_ GE192.out) | exact HB.out)) hb); have n2_ := Aside0.mk (hbox); have n3_ := Aside0.mk ((by rw [hg]; exact (below_size (by repeat (first | (with_reducible first | exact HB.out | apply below_alloc | apply pw_below_drewN | apply below_drew1 | refine below_set ?_ GE192.out) | exact HB.out))) : w.heap.size ≤ gb193)); have n4_ := Aside0.mk ((by rw [hg]; exact (below_size (by repeat (first | (with_reducible first | exact HB.out | apply below_alloc | apply pw_below_drewN | apply below_drew1 | refine below_set ?_ GE192.out) | exact HB.out))) : w.heap.size ≤ gb193)); have n5_ := Aside0.mk ((by rw [hg]; exact Nat.ne_of_lt (blk_lt (g := gb192) (o := .cells #[.int .i64 a0_0, .int .i64 a0_1, .string a0_2, .int .i64 a0_3, .slice A0_4 l0_4.length c0_4, .string a0_5] 40 (0, 0)) (by (with_reducible repeat (first | refine blk_drewN ?_ _ | refine blk_drew ?_ | refine blk_alloc ?_ _)); exact BK192.out)) : gb192 ≠ gb193)); have n6_ := Aside0.mk ((by rw [hg]; exact Nat.ne_of_gt (blk_lt (g := gb192) (o := .cells #[.int .i64 a0_0, .int .i64 a0_1, .string a0_2, .int .i64 a0_3, .slice A0_4 l0_4.length c0_4, .string a0_5] 40 (0, 0)) (by (with_reducible repeat (first | refine blk_drewN ?_ _ | refine blk_drew ?_ | refine blk_alloc ?_ _)); exact BK192.out)) : gb193 ≠ gb192)); clear BK192; clear HB; have BK192 := n0_; have HB := n1_; have BK193 := n2_; have GW193 := n3_; have GE193 := n4_; have NB192_193 := n5_; have NB193_192 := n6_; clear n0_ n1_ n2_ n3_ n4_ n5_ n6_; clear hb hbox hg)))
 (try simp only [Act.put, List.setIfInBounds_toArray, List.set_cons_zero, List.set_cons_succ])
 go_cut [40] (fun v40 wc => ∃ (kq : Nat) (x40_2 : Bool), v40 = .bool x40_2 ∧ Aside0 (squelchref25_Same.j0 kq x40_2 a0_0 a0_1 a0_2 a0_3 l0_4 a0_5 a1_0 a1_1 a1_2 a1_3 l1_4 a1_5 = some r) ∧ Aside0 (kq ≤ k) ∧ Aside0 (wc.heap[gb192]? = some (.cells #[.int .i64 a0_0, .int .i64 a0_1, .string a0_2, .int .i64 a0_3, (.slice A0_4 l0_4.length c0_4), .string a0_5] 40 (0, 0))) ∧ Aside0 (wc.heap[gb193]? = some (.cells #[.int .i64 a1_0, .int .i64 a1_1, .string a1_2, .int .i64 a1_3, (.slice A1_4 l1_4.length c1_4), .string a1_5] 40 (0, 0))) ∧ Aside0 (Below w.heap.size w wc))
 case first =>
  have H := HC3.out
  clear HC3
  by_cases c6 : a0_0 = a1_0
  ·rw [if_pos c6] at H
   have c6b0 : (a0_0 == a1_0) = true := beq_iff_eq.mpr c6
   have c6b1 : (a0_0 != a1_0) = false := bne_eq_false_iff_eq.mpr c6
   clear c6
   (first | rw [c6b0] | (simp only [i64_w, i32_w]; rw [c6b0]) | skip)
   by_cases c7 : a0_1 = a1_1
   ·rw [if_pos c7] at H
    have c7b0 : (a0_1 == a1_1) = true := beq_iff_eq.mpr c7
    have c7b1 : (a0_1 != a1_1) = false := bne_eq_false_iff_eq.mpr c7
    clear c7
    by_cases c8 : (!(a0_2.toList == a1_2.toList) || (!(a0_3 == a1_3))) = true
    ·rw [if_pos c8] at H
     have c8b0 : (!(a0_2.toList == a1_2.toList) || (!(a0_3 == a1_3))) = true := c8
     clear c8
     have H' := Aside0.mk H
     clear H
     have hnb9 := NB192_193.out
     have hnc9 := NB193_192.out
     have hcz10_0 : w5.cell? ⟨gb192, 0, none⟩ = some (.int .i64 a0_0) := (blk_cell BK192.out 0).trans rfl
     have hcz10_1 : w5.cell? ⟨gb192, 1, none⟩ = some (.int .i64 a0_1) := (blk_cell BK192.out 1).trans rfl
     have hcz10_2 : w5.cell? ⟨gb192, 2, none⟩ = some (.string a0_2) := (blk_cell BK192.out 2).trans rfl
     have hcz10_3 : w5.cell? ⟨gb192, 3, none⟩ = some (.int .i64 a0_3) := (blk_cell BK192.out 3).trans rfl
     have hcz10_4 : w5.cell? ⟨gb192, 4, none⟩ = some (.slice A0_4 l0_4.length c0_4) := (blk_cell BK192.out 4).trans rfl
     have hcz10_5 : w5.cell? ⟨gb192, 5, none⟩ = some (.string a0_5) := (blk_cell BK192.out 5).trans rfl
     have hfz10_0 := blk_frozen BK192.out 0
     have hfz10_1 := blk_frozen BK192.out 1
     have hfz10_2 := blk_frozen BK192.out 2
     have hfz10_3 := blk_frozen BK192.out 3
     have hfz10_4 := blk_frozen BK192.out 4
     have hfz10_5 := blk_frozen BK192.out 5
     have hcz11_0 : w5.cell? ⟨gb193, 0, none⟩ = some (.int .i64 a1_0) := (blk_cell BK193.out 0).trans rfl
     have hcz11_1 : w5.cell? ⟨gb193, 1, none⟩ = some (.int .i64 a1_1) := (blk_cell BK193.out 1).trans rfl
     have hcz11_2 : w5.cell? ⟨gb193, 2, none⟩ = some (.string a1_2) := (blk_cell BK193.out 2).trans rfl
     have hcz11_3 : w5.cell? ⟨gb193, 3, none⟩ = some (.int .i64 a1_3) := (blk_cell BK193.out 3).trans rfl
     have hcz11_4 : w5.cell? ⟨gb193, 4, none⟩ = some (.slice A1_4 l1_4.length c1_4) := (blk_cell BK193.out 4).trans rfl
     have hcz11_5 : w5.cell? ⟨gb193, 5, none⟩ = some (.string a1_5) := (blk_cell BK193.out 5).trans rfl
     have hfz11_0 := blk_frozen BK193.out 0
     have hfz11_1 := blk_frozen BK193.out 1
     have hfz11_2 := blk_frozen BK193.out 2
     have hfz11_3 := blk_frozen BK193.out 3
     have hfz11_4 := blk_frozen BK193.out 4
     have hfz11_5 := blk_frozen BK193.out 5
     go_wp2
     repeat (go_quiet (fail); try go_wp2)
     go_meet
     case rel => exact ⟨_, (true), (by first | rfl | (simp; done) | (simp [*]; done) | (simp; exact (fun l : List UInt8 => (by cases l <;> rfl : l.isEmpty = !(l != []))) _)), H', ⟨by first | omega | exact Nat.le_refl _⟩, ⟨by (with_reducible repeat (first | refine blk_drewN ?_ _ | refine blk_drew ?_ | refine blk_alloc ?_ _)); exact BK192.out⟩, ⟨by (with_reducible repeat (first | refine blk_drewN ?_ _ | refine blk_drew ?_ | refine blk_alloc ?_ _)); exact BK193.out⟩, ⟨by repeat (first | (with_reducible first | exact HB.out | apply below_alloc | apply pw_below_drewN | apply below_drew1 | refine below_set ?_ GE192.out | refine below_set ?_ GE193.out) | exact HB.out)⟩⟩
    ·rw [if_neg c8] at H
     have c8b0 : (!(a0_2.toList == a1_2.toList) || (!(a0_3 == a1_3))) = false := by simpa using c8
     clear c8
     by_cases c12 : a0_5.toList = a1_5.toList
     ·rw [if_pos c12] at H
      have c12b0 : (a0_5.toList == a1_5.toList) = true := beq_iff_eq.mpr c12
      have c12b1 : (a0_5.toList != a1_5.toList) = false := bne_eq_false_iff_eq.mpr c12
      clear c12
      have H' := Aside0.mk H
      clear H
      have hnb13 := NB192_193.out
      have hnc13 := NB193_192.out
      have hcz14_0 : w5.cell? ⟨gb192, 0, none⟩ = some (.int .i64 a0_0) := (blk_cell BK192.out 0).trans rfl
      have hcz14_1 : w5.cell? ⟨gb192, 1, none⟩ = some (.int .i64 a0_1) := (blk_cell BK192.out 1).trans rfl
      have hcz14_2 : w5.cell? ⟨gb192, 2, none⟩ = some (.string a0_2) := (blk_cell BK192.out 2).trans rfl
      have hcz14_3 : w5.cell? ⟨gb192, 3, none⟩ = some (.int .i64 a0_3) := (blk_cell BK192.out 3).trans rfl
      have hcz14_4 : w5.cell? ⟨gb192, 4, none⟩ = some (.slice A0_4 l0_4.length c0_4) := (blk_cell BK192.out 4).trans rfl
      have hcz14_5 : w5.cell? ⟨gb192, 5, none⟩ = some (.string a0_5) := (blk_cell BK192.out 5).trans rfl
      have hfz14_0 := blk_frozen BK192.out 0
      have hfz14_1 := blk_frozen BK192.out 1
      have hfz14_2 := blk_frozen BK192.out 2
      have hfz14_3 := blk_frozen BK192.out 3
      have hfz14_4 := blk_frozen BK192.out 4
      have hfz14_5 := blk_frozen BK192.out 5
      have hcz15_0 : w5.cell? ⟨gb193, 0, none⟩ = some (.int .i64 a1_0) := (blk_cell BK193.out 0).trans rfl
      have hcz15_1 : w5.cell? ⟨gb193, 1, none⟩ = some (.int .i64 a1_1) := (blk_cell BK193.out 1).trans rfl
      have hcz15_2 : w5.cell? ⟨gb193, 2, none⟩ = some (.string a1_2) := (blk_cell BK193.out 2).trans rfl
      have hcz15_3 : w5.cell? ⟨gb193, 3, none⟩ = some (.int .i64 a1_3) := (blk_cell BK193.out 3).trans rfl
      have hcz15_4 : w5.cell? ⟨gb193, 4, none⟩ = some (.slice A1_4 l1_4.length c1_4) := (blk_cell BK193.out 4).trans rfl
      have hcz15_5 : w5.cell? ⟨gb193, 5, none⟩ = some (.string a1_5) := (blk_cell BK193.out 5).trans rfl
      have hfz15_0 := blk_frozen BK193.out 0
      have hfz15_1 := blk_frozen BK193.out 1
      have hfz15_2 := blk_frozen BK193.out 2
      have hfz15_3 := blk_frozen BK193.out 3
      have hfz15_4 := blk_frozen BK193.out 4
      have hfz15_5 := blk_frozen BK193.out 5
      go_wp2
      repeat (go_quiet (fail); try go_wp2)
      go_meet
      case rel => exact ⟨_, (((l0_4.length : Int) != (l1_4.length : Int))), (by first | rfl | (simp; done) | (simp [*]; done) | (simp; exact (fun l : List UInt8 => (by cases l <;> rfl : l.isEmpty = !(l != []))) _)), H', ⟨by first | omega | exact Nat.le_refl _⟩, ⟨by (with_reducible repeat (first | refine blk_drewN ?_ _ | refine blk_drew ?_ | refine blk_alloc ?_ _)); exact BK192.out⟩, ⟨by (with_reducible repeat (first | refine blk_drewN ?_ _ | refine blk_drew ?_ | refine blk_alloc ?_ _)); exact BK193.out⟩, ⟨by repeat (first | (with_reducible first | exact HB.out | apply below_alloc | apply pw_below_drewN | apply below_drew1 | refine below_set ?_ GE192.out | refine below_set ?_ GE193.out) | exact HB.out)⟩⟩
     ·rw [if_neg c12] at H
      have c12b0 : (a0_5.toList == a1_5.toList) = false := beq_eq_false_iff_ne.mpr c12
      have c12b1 : (a0_5.toList != a1_5.toList) = true := bne_iff_ne.mpr c12
      have H' := Aside0.mk H
      clear H
      have hnb16 := NB192_193.out
      have hnc16 := NB193_192.out
      have hcz17_0 : w5.cell? ⟨gb192, 0, none⟩ = some (.int .i64 a0_0) := (blk_cell BK192.out 0).trans rfl
      have hcz17_1 : w5.cell? ⟨gb192, 1, none⟩ = some (.int .i64 a0_1) := (blk_cell BK192.out 1).trans rfl
      have hcz17_2 : w5.cell? ⟨gb192, 2, none⟩ = some (.string a0_2) := (blk_cell BK192.out 2).trans rfl
      have hcz17_3 : w5.cell? ⟨gb192, 3, none⟩ = some (.int .i64 a0_3) := (blk_cell BK192.out 3).trans rfl
      have hcz17_4 : w5.cell? ⟨gb192, 4, none⟩ = some (.slice A0_4 l0_4.length c0_4) := (blk_cell BK192.out 4).trans rfl
      have hcz17_5 : w5.cell? ⟨gb192, 5, none⟩ = some (.string a0_5) := (blk_cell BK192.out 5).trans rfl
      have hfz17_0 := blk_frozen BK192.out 0
      have hfz17_1 := blk_frozen BK192.out 1
      have hfz17_2 := blk_frozen BK192.out 2
      have hfz17_3 := blk_frozen BK192.out 3
      have hfz17_4 := blk_frozen BK192.out 4
      have hfz17_5 := blk_frozen BK192.out 5
      have hcz18_0 : w5.cell? ⟨gb193, 0, none⟩ = some (.int .i64 a1_0) := (blk_cell BK193.out 0).trans rfl
      have hcz18_1 : w5.cell? ⟨gb193, 1, none⟩ = some (.int .i64 a1_1) := (blk_cell BK193.out 1).trans rfl
      have hcz18_2 : w5.cell? ⟨gb193, 2, none⟩ = some (.string a1_2) := (blk_cell BK193.out 2).trans rfl
      have hcz18_3 : w5.cell? ⟨gb193, 3, none⟩ = some (.int .i64 a1_3) := (blk_cell BK193.out 3).trans rfl
      have hcz18_4 : w5.cell? ⟨gb193, 4, none⟩ = some (.slice A1_4 l1_4.length c1_4) := (blk_cell BK193.out 4).trans rfl
      have hcz18_5 : w5.cell? ⟨gb193, 5, none⟩ = some (.string a1_5) := (blk_cell BK193.out 5).trans rfl
      have hfz18_0 := blk_frozen BK193.out 0
      have hfz18_1 := blk_frozen BK193.out 1
      have hfz18_2 := blk_frozen BK193.out 2
      have hfz18_3 := blk_frozen BK193.out 3
      have hfz18_4 := blk_frozen BK193.out 4
      have hfz18_5 := blk_frozen BK193.out 5
      go_wp2
      repeat (go_quiet (fail); try go_wp2)
      go_meet
      case rel => exact ⟨_, (true), (by first | rfl | (simp; done) | (simp [*]; done) | (simp; exact (fun l : List UInt8 => (by cases l <;> rfl : l.isEmpty = !(l != []))) _)), H', ⟨by first | omega | exact Nat.le_refl _⟩, ⟨by (with_reducible repeat (first | refine blk_drewN ?_ _ | refine blk_drew ?_ | refine blk_alloc ?_ _)); exact BK192.out⟩, ⟨by (with_reducible repeat (first | refine blk_drewN ?_ _ | refine blk_drew ?_ | refine blk_alloc ?_ _)); exact BK193.out⟩, ⟨by repeat (first | (with_reducible first | exact HB.out | apply below_alloc | apply pw_below_drewN | apply below_drew1 | refine below_set ?_ GE192.out | refine below_set ?_ GE193.out) | exact HB.out)⟩⟩
   ·rw [if_neg c7] at H
    have c7b0 : (a0_1 == a1_1) = false := beq_eq_false_iff_ne.mpr c7
    have c7b1 : (a0_1 != a1_1) = true := bne_iff_ne.mpr c7
    have H' := Aside0.mk H
    clear H
    have hnb19 := NB192_193.out
    have hnc19 := NB193_192.out
    have hcz20_0 : w5.cell? ⟨gb192, 0, none⟩ = some (.int .i64 a0_0) := (blk_cell BK192.out 0).trans rfl
    have hcz20_1 : w5.cell? ⟨gb192, 1, none⟩ = some (.int .i64 a0_1) := (blk_cell BK192.out 1).trans rfl
    have hcz20_2 : w5.cell? ⟨gb192, 2, none⟩ = some (.string a0_2) := (blk_cell BK192.out 2).trans rfl
    have hcz20_3 : w5.cell? ⟨gb192, 3, none⟩ = some (.int .i64 a0_3) := (blk_cell BK192.out 3).trans rfl
    have hcz20_4 : w5.cell? ⟨gb192, 4, none⟩ = some (.slice A0_4 l0_4.length c0_4) := (blk_cell BK192.out 4).trans rfl
    have hcz20_5 : w5.cell? ⟨gb192, 5, none⟩ = some (.string a0_5) := (blk_cell BK192.out 5).trans rfl
    have hfz20_0 := blk_frozen BK192.out 0
    have hfz20_1 := blk_frozen BK192.out 1
    have hfz20_2 := blk_frozen BK192.out 2
    have hfz20_3 := blk_frozen BK192.out 3
    have hfz20_4 := blk_frozen BK192.out 4
    have hfz20_5 := blk_frozen BK192.out 5
    have hcz21_0 : w5.cell? ⟨gb193, 0, none⟩ = some (.int .i64 a1_0) := (blk_cell BK193.out 0).trans rfl
    have hcz21_1 : w5.cell? ⟨gb193, 1, none⟩ = some (.int .i64 a1_1) := (blk_cell BK193.out 1).trans rfl
    have hcz21_2 : w5.cell? ⟨gb193, 2, none⟩ = some (.string a1_2) := (blk_cell BK193.out 2).trans rfl
    have hcz21_3 : w5.cell? ⟨gb193, 3, none⟩ = some (.int .i64 a1_3) := (blk_cell BK193.out 3).trans rfl
    have hcz21_4 : w5.cell? ⟨gb193, 4, none⟩ = some (.slice A1_4 l1_4.length c1_4) := (blk_cell BK193.out 4).trans rfl
    have hcz21_5 : w5.cell? ⟨gb193, 5, none⟩ = some (.string a1_5) := (blk_cell BK193.out 5).trans rfl
    have hfz21_0 := blk_frozen BK193.out 0
    have hfz21_1 := blk_frozen BK193.out 1
    have hfz21_2 := blk_frozen BK193.out 2
    have hfz21_3 := blk_frozen BK193.out 3
    have hfz21_4 := blk_frozen BK193.out 4
    have hfz21_5 := blk_frozen BK193.out 5
    go_wp2
    repeat (go_quiet (fail); try go_wp2)
    go_meet
    case rel => exact ⟨_, (true), (by first | rfl | (simp; done) | (simp [*]; done) | (simp; exact (fun l : List UInt8 => (by cases l <;> rfl : l.isEmpty = !(l != []))) _)), H', ⟨by first | omega | exact Nat.le_refl _⟩, ⟨by (with_reducible repeat (first | refine blk_drewN ?_ _ | refine blk_drew ?_ | refine blk_alloc ?_ _)); exact BK192.out⟩, ⟨by (with_reducible repeat (first | refine blk_drewN ?_ _ | refine blk_drew ?_ | refine blk_alloc ?_ _)); exact BK193.out⟩, ⟨by repeat (first | (with_reducible first | exact HB.out | apply below_alloc | apply pw_below_drewN | apply below_drew1 | refine below_set ?_ GE192.out | refine below_set ?_ GE193.out) | exact HB.out)⟩⟩
  ·rw [if_neg c6] at H
   have c6b0 : (a0_0 == a1_0) = false := beq_eq_false_iff_ne.mpr c6
   have c6b1 : (a0_0 != a1_0) = true := bne_iff_ne.mpr c6
   (first | rw [c6b0] | (simp only [i64_w, i32_w]; rw [c6b0]) | skip)
   have H' := Aside0.mk H
   clear H
   have hnb22 := NB192_193.out
   have hnc22 := NB193_192.out
   have hcz23_0 : w5.cell? ⟨gb192, 0, none⟩ = some (.int .i64 a0_0) := (blk_cell BK192.out 0).trans rfl
   have hcz23_1 : w5.cell? ⟨gb192, 1, none⟩ = some (.int .i64 a0_1) := (blk_cell BK192.out 1).trans rfl
   have hcz23_2 : w5.cell? ⟨gb192, 2, none⟩ = some (.string a0_2) := (blk_cell BK192.out 2).trans rfl
   have hcz23_3 : w5.cell? ⟨gb192, 3, none⟩ = some (.int .i64 a0_3) := (blk_cell BK192.out 3).trans rfl
   have hcz23_4 : w5.cell? ⟨gb192, 4, none⟩ = some (.slice A0_4 l0_4.length c0_4) := (blk_cell BK192.out 4).trans rfl
   have hcz23_5 : w5.cell? ⟨gb192, 5, none⟩ = some (.string a0_5) := (blk_cell BK192.out 5).trans rfl
   have hfz23_0 := blk_frozen BK192.out 0
   have hfz23_1 := blk_frozen BK192.out 1
   have hfz23_2 := blk_frozen BK192.out 2
   have hfz23_3 := blk_frozen BK192.out 3
   have hfz23_4 := blk_frozen BK192.out 4
   have hfz23_5 := blk_frozen BK192.out 5
   have hcz24_0 : w5.cell? ⟨gb193, 0, none⟩ = some (.int .i64 a1_0) := (blk_cell BK193.out 0).trans rfl
   have hcz24_1 : w5.cell? ⟨gb193, 1, none⟩ = some (.int .i64 a1_1) := (blk_cell BK193.out 1).trans rfl
   have hcz24_2 : w5.cell? ⟨gb193, 2, none⟩ = some (.string a1_2) := (blk_cell BK193.out 2).trans rfl
   have hcz24_3 : w5.cell? ⟨gb193, 3, none⟩ = some (.int .i64 a1_3) := (blk_cell BK193.out 3).trans rfl
   have hcz24_4 : w5.cell? ⟨gb193, 4, none⟩ = some (.slice A1_4 l1_4.length c1_4) := (blk_cell BK193.out 4).trans rfl
   have hcz24_5 : w5.cell? ⟨gb193, 5, none⟩ = some (.string a1_5) := (blk_cell BK193.out 5).trans rfl
   have hfz24_0 := blk_frozen BK193.out 0
   have hfz24_1 := blk_frozen BK193.out 1
   have hfz24_2 := blk_frozen BK193.out 2
   have hfz24_3 := blk_frozen BK193.out 3
   have hfz24_4 := blk_frozen BK193.out 4
   have hfz24_5 := blk_frozen BK193.out 5
   go_wp2
   repeat (go_quiet (fail); try go_wp2)
   go_meet
   case rel => exact ⟨_, (true), (by first | rfl | (simp; done) | (simp [*]; done) | (simp; exact (fun l : List UInt8 => (by cases l <;> rfl : l.isEmpty = !(l != []))) _)), H', ⟨by first | omega | exact Nat.le_refl _⟩, ⟨by (with_reducible repeat (first | refine blk_drewN ?_ _ | refine blk_drew ?_ | refine blk_alloc ?_ _)); exact BK192.out⟩, ⟨by (with_reducible repeat (first | refine blk_drewN ?_ _ | refine blk_drew ?_ | refine blk_alloc ?_ _)); exact BK193.out⟩, ⟨by repeat (first | (with_reducible first | exact HB.out | apply below_alloc | apply pw_below_drewN | apply below_drew1 | refine below_set ?_ GE192.out | refine below_set ?_ GE193.out) | exact HB.out)⟩⟩
 case rest =>
  clear HC3
  try clear c1
  try clear c2
  try clear p2
  try clear c6
  try clear c6b0
  try clear c6b1
  try clear c7
  try clear c7b0
  try clear c7b1
  try clear c8
  try clear c8b0
  try clear c9
  try clear c12
  try clear c12b0
  try clear c12b1
  try clear c13
  try clear c14
  try clear c16
  try clear c19
  try clear c22
  try clear hcz10_0
  try clear hcz10_1
  try clear hcz10_2
  try clear hcz10_3
  try clear hcz10_4
  try clear hcz10_5
  try clear hcz11_0
  try clear hcz11_1
  try clear hcz11_2
  try clear hcz11_3
  try clear hcz11_4
  try clear hcz11_5
  try clear hcz14_0
  try clear hcz14_1
  try clear hcz14_2
  try clear hcz14_3
  try clear hcz14_4
  try clear hcz14_5
  try clear hcz15_0
  try clear hcz15_1
  try clear hcz15_2
  try clear hcz15_3
  try clear hcz15_4
  try clear hcz15_5
  try clear hcz17_0
  try clear hcz17_1
  try clear hcz17_2
  try clear hcz17_3
  try clear hcz17_4
  try clear hcz17_5
  try clear hcz18_0
  try clear hcz18_1
  try clear hcz18_2
  try clear hcz18_3
  try clear hcz18_4
  try clear hcz18_5
  try clear hcz20_0
  try clear hcz20_1
  try clear hcz20_2
  try clear hcz20_3
  try clear hcz20_4
  try clear hcz20_5
  try clear hcz21_0
  try clear hcz21_1
  try clear hcz21_2
  try clear hcz21_3
  try clear hcz21_4
  try clear hcz21_5
  try clear hcz23_0
  try clear hcz23_1
  try clear hcz23_2
  try clear hcz23_3
  try clear hcz23_4
  try clear hcz23_5
  try clear hcz24_0
  try clear hcz24_1
  try clear hcz24_2
  try clear hcz24_3
  try clear hcz24_4
  try clear hcz24_5
  try clear hfz10_0
  try clear hfz10_1
  try clear hfz10_2
  try clear hfz10_3
  try clear hfz10_4
  try clear hfz10_5
  try clear hfz11_0
  try clear hfz11_1
  try clear hfz11_2
  try clear hfz11_3
  try clear hfz11_4
  try clear hfz11_5
  try clear hfz14_0
  try clear hfz14_1
  try clear hfz14_2
  try clear hfz14_3
  try clear hfz14_4
  try clear hfz14_5
  try clear hfz15_0
  try clear hfz15_1
  try clear hfz15_2
  try clear hfz15_3
  try clear hfz15_4
  try clear hfz15_5
  try clear hfz17_0
  try clear hfz17_1
  try clear hfz17_2
  try clear hfz17_3
  try clear hfz17_4
  try clear hfz17_5
  try clear hfz18_0
  try clear hfz18_1
  try clear hfz18_2
  try clear hfz18_3
  try clear hfz18_4
  try clear hfz18_5
  try clear hfz20_0
  try clear hfz20_1
  try clear hfz20_2
  try clear hfz20_3
  try clear hfz20_4
  try clear hfz20_5
  try clear hfz21_0
  try clear hfz21_1
  try clear hfz21_2
  try clear hfz21_3
  try clear hfz21_4
  try clear hfz21_5
  try clear hfz23_0
  try clear hfz23_1
  try clear hfz23_2
  try clear hfz23_3
  try clear hfz23_4
  try clear hfz23_5
  try clear hfz24_0
  try clear hfz24_1
  try clear hfz24_2
  try clear hfz24_3
  try clear hfz24_4
  try clear hfz24_5
  obtain ⟨kq, x40_2, rfl, HA, HJ2, BK192, BK193, HB⟩ := hcut
  cases kq with
  | zero => exact absurd HA.out (by simp [squelchref25_Same.j0])
  | succ kj2 =>
   have H := HA.out
   clear HA
   simp only [squelchref25_Same.j0] at H
   by_cases c25 : x40_2 = true
   ·subst c25
    have H1 : (some false) = some r := by rw [if_pos rfl] at H; exact H
    clear H
    have H := H1
    clear H1
    obtain rfl := Option.some.inj H
    go_wp2
    repeat (go_quiet (fail); try go_wp2)
    go_ret
    exact ⟨by first | rfl | (simp [errW_none, errW_some] <;> rfl) | (simp [*, errW_none, errW_some] <;> rfl), by repeat (first | (with_reducible first | exact HB.out | apply below_alloc | apply pw_below_drewN | apply below_drew1 | refine below_set ?_ GE192.out | refine below_set ?_ GE193.out) | exact HB.out)⟩
   ·replace c25 := Bool.eq_false_iff.mpr c25
    subst c25
    have H1 : (squelchref25_Same.l0 kj2 0 a0_0 a0_1 a0_2 a0_3 l0_4 a0_5 a1_0 a1_1 a1_2 a1_3 l1_4 a1_5) = some r := by rw [if_neg (show ¬ (false = true) by decide)] at H; exact H
    clear H
    have H := H1
    clear H1
    have H' := Aside0.mk H
    clear H
    go_wp2
    repeat (go_quiet (fail); try go_wp2)
    go_loopg [5] kj2 (fun kq v5 w' => ∃ (x5_2 : Int), v5 = .int .i64 x5_2 ∧ Aside0 (squelchref25_Same.l0 kq x5_2 a0_0 a0_1 a0_2 a0_3 l0_4 a0_5 a1_0 a1_1 a1_2 a1_3 l1_4 a1_5 = some r) ∧ Aside0 (kq ≤ kj2) ∧ Aside0 (w'.heap[gb192]? = some (.cells #[.int .i64 a0_0, .int .i64 a0_1, .string a0_2, .int .i64 a0_3, (.slice A0_4 l0_4.length c0_4), .string a0_5] 40 (0, 0))) ∧ Aside0 (w'.heap[gb193]? = some (.cells #[.int .i64 a1_0, .int .i64 a1_1, .string a1_2, .int .i64 a1_3, (.slice A1_4 l1_4.length c1_4), .string a1_5] 40 (0, 0))) ∧ Aside0 (Below w.heap.size w w'))
    case atStart => exact ⟨(0), (by first | rfl | (simp; done) | (simp [*]; done) | (simp; exact (fun l : List UInt8 => (by cases l <;> rfl : l.isEmpty = !(l != []))) _)), H', ⟨Nat.le_refl _⟩, ⟨by (with_reducible repeat (first | refine blk_drewN ?_ _ | refine blk_drew ?_ | refine blk_alloc ?_ _)); exact BK192.out⟩, ⟨by (with_reducible repeat (first | refine blk_drewN ?_ _ | refine blk_drew ?_ | refine blk_alloc ?_ _)); exact BK193.out⟩, ⟨by repeat (first | (with_reducible first | exact HB.out | apply below_alloc | apply pw_below_drewN | apply below_drew1 | refine below_set ?_ GE192.out | refine below_set ?_ GE193.out) | exact HB.out)⟩⟩
    case round =>
     clear H'
     try clear c1
     try clear c2
     try clear p2
     try clear c6
     try clear c6b0
     try clear c6b1
     try clear c7
     try clear c7b0
     try clear c7b1
     try clear c8
     try clear c8b0
     try clear c9
     try clear c12
     try clear c12b0
     try clear c12b1
     try clear c13
     try clear c14
     try clear c16
     try clear c19
     try clear c22
     try clear c25
     try clear hcz10_0
     try clear hcz10_1
     try clear hcz10_2
     try clear hcz10_3
     try clear hcz10_4
     try clear hcz10_5
     try clear hcz11_0
     try clear hcz11_1
     try clear hcz11_2
     try clear hcz11_3
     try clear hcz11_4
     try clear hcz11_5
     try clear hcz14_0
     try clear hcz14_1
     try clear hcz14_2
     try clear hcz14_3
     try clear hcz14_4
     try clear hcz14_5
     try clear hcz15_0
     try clear hcz15_1
     try clear hcz15_2
     try clear hcz15_3
     try clear hcz15_4
     try clear hcz15_5
     try clear hcz17_0
     try clear hcz17_1
     try clear hcz17_2
     try clear hcz17_3
     try clear hcz17_4
     try clear hcz17_5
     try clear hcz18_0
     try clear hcz18_1
     try clear hcz18_2
     try clear hcz18_3
     try clear hcz18_4
     try clear hcz18_5
     try clear hcz20_0
     try clear hcz20_1
     try clear hcz20_2
     try clear hcz20_3
     try clear hcz20_4
     try clear hcz20_5
     try clear hcz21_0
     try clear hcz21_1
     try clear hcz21_2
     try clear hcz21_3
     try clear hcz21_4
     try clear hcz21_5
     try clear hcz23_0
     try clear hcz23_1
     try clear hcz23_2
     try clear hcz23_3
     try clear hcz23_4
     try clear hcz23_5
     try clear hcz24_0
     try clear hcz24_1
     try clear hcz24_2
     try clear hcz24_3
     try clear hcz24_4
     try clear hcz24_5
     try clear hfz10_0
     try clear hfz10_1
     try clear hfz10_2
     try clear hfz10_3
     try clear hfz10_4
     try clear hfz10_5
     try clear hfz11_0
     try clear hfz11_1
     try clear hfz11_2
     try clear hfz11_3
     try clear hfz11_4
     try clear hfz11_5
     try clear hfz14_0
     try clear hfz14_1
     try clear hfz14_2
     try clear hfz14_3
     try clear hfz14_4
     try clear hfz14_5
     try clear hfz15_0
     try clear hfz15_1
     try clear hfz15_2
     try clear hfz15_3
     try clear hfz15_4
     try clear hfz15_5
     try clear hfz17_0
     try clear hfz17_1
     try clear hfz17_2
     try clear hfz17_3
     try clear hfz17_4
     try clear hfz17_5
     try clear hfz18_0
     try clear hfz18_1
     try clear hfz18_2
     try clear hfz18_3
     try clear hfz18_4
     try clear hfz18_5
     try clear hfz20_0
     try clear hfz20_1
     try clear hfz20_2
     try clear hfz20_3
     try clear hfz20_4
     try clear hfz20_5
     try clear hfz21_0
     try clear hfz21_1
     try clear hfz21_2
     try clear hfz21_3
     try clear hfz21_4
     try clear hfz21_5
     try clear hfz23_0
     try clear hfz23_1
     try clear hfz23_2
     try clear hfz23_3
     try clear hfz23_4
     try clear hfz23_5
     try clear hfz24_0
     try clear hfz24_1
     try clear hfz24_2
     try clear hfz24_3
     try clear hfz24_4
     try clear hfz24_5
     try clear p2
     obtain ⟨x5_2, rfl, HA, HK2, BK192, BK193, HB⟩ := hrel
     cases gk with
     | zero => exact absurd HA.out (by simp [squelchref25_Same.l0])
     | succ k2 =>
      have H := HA.out
      clear HA
      simp only [squelchref25_Same.l0] at H
      by_cases c26 : x5_2 < (l0_4.length : Int)
      ·rw [if_pos c26] at H
       have c26b0 : decide (x5_2 < (l0_4.length : Int)) = true := decide_eq_true c26
       clear c26
       by_cases c27 : 0 ≤ x5_2
       ·rw [if_pos c27] at H
        have c27b0 : decide (0 ≤ x5_2) = true := decide_eq_true c27
        clear c27
        by_cases c28 : x5_2 < (l1_4.length : Int)
        ·rw [if_pos c28] at H
         have c28b0 : decide (x5_2 < (l1_4.length : Int)) = true := decide_eq_true c28
         clear c28
         by_cases c29 : (!((((rd_T29 l0_4 x5_2).f0).toList) == (((rd_T29 l1_4 x5_2).f0).toList)) || (!(((rd_T29 l0_4 x5_2).f1) == ((rd_T29 l1_4 x5_2).f1)))) = true
         ·rw [if_pos c29] at H
          have c29b0 : (!((((rd_T29 l0_4 x5_2).f0).toList) == (((rd_T29 l1_4 x5_2).f0).toList)) || (!(((rd_T29 l0_4 x5_2).f1) == ((rd_T29 l1_4 x5_2).f1)))) = true := c29
          clear c29
          obtain rfl := Option.some.inj H
          have hnb30 := NB192_193.out
          have hnc30 := NB193_192.out
          have hcz31_0 : wr.cell? ⟨gb192, 0, none⟩ = some (.int .i64 a0_0) := (blk_cell BK192.out 0).trans rfl
          have hcz31_1 : wr.cell? ⟨gb192, 1, none⟩ = some (.int .i64 a0_1) := (blk_cell BK192.out 1).trans rfl
          have hcz31_2 : wr.cell? ⟨gb192, 2, none⟩ = some (.string a0_2) := (blk_cell BK192.out 2).trans rfl
          have hcz31_3 : wr.cell? ⟨gb192, 3, none⟩ = some (.int .i64 a0_3) := (blk_cell BK192.out 3).trans rfl
          have hcz31_4 : wr.cell? ⟨gb192, 4, none⟩ = some (.slice A0_4 l0_4.length c0_4) := (blk_cell BK192.out 4).trans rfl
          have hcz31_5 : wr.cell? ⟨gb192, 5, none⟩ = some (.string a0_5) := (blk_cell BK192.out 5).trans rfl
          have hfz31_0 := blk_frozen BK192.out 0
          have hfz31_1 := blk_frozen BK192.out 1
          have hfz31_2 := blk_frozen BK192.out 2
          have hfz31_3 := blk_frozen BK192.out 3
          have hfz31_4 := blk_frozen BK192.out 4
          have hfz31_5 := blk_frozen BK192.out 5
          have p194 : 0 ≤ (x5_2 : Int) := of_decide_eq_true (by first | (with_reducible assumption) | assumption)
          have q194 : x5_2 < (l0_4.length : Int) := of_decide_eq_true (by first | (with_reducible assumption) | assumption)
          obtain ⟨ad194, e194, hx194_0, hx194_1⟩ := at_T29 HR0_4.out x5_2 p194 q194
          cases e194
          replace hx194_0 := (HB.out.cell (World.block_lt_of_cell? w _ hx194_0)).trans hx194_0
          replace hx194_1 := (HB.out.cell (World.block_lt_of_cell? w _ hx194_1)).trans hx194_1
          replace p194 := eq_true p194
          replace q194 := eq_true q194
          have hcz32_0 : wr.cell? ⟨gb193, 0, none⟩ = some (.int .i64 a1_0) := (blk_cell BK193.out 0).trans rfl
          have hcz32_1 : wr.cell? ⟨gb193, 1, none⟩ = some (.int .i64 a1_1) := (blk_cell BK193.out 1).trans rfl
          have hcz32_2 : wr.cell? ⟨gb193, 2, none⟩ = some (.string a1_2) := (blk_cell BK193.out 2).trans rfl
          have hcz32_3 : wr.cell? ⟨gb193, 3, none⟩ = some (.int .i64 a1_3) := (blk_cell BK193.out 3).trans rfl
          have hcz32_4 : wr.cell? ⟨gb193, 4, none⟩ = some (.slice A1_4 l1_4.length c1_4) := (blk_cell BK193.out 4).trans rfl
          have hcz32_5 : wr.cell? ⟨gb193, 5, none⟩ = some (.string a1_5) := (blk_cell BK193.out 5).trans rfl
          have hfz32_0 := blk_frozen BK193.out 0
          have hfz32_1 := blk_frozen BK193.out 1
          have hfz32_2 := blk_frozen BK193.out 2
          have hfz32_3 := blk_frozen BK193.out 3
          have hfz32_4 := blk_frozen BK193.out 4
          have hfz32_5 := blk_frozen BK193.out 5
          have p195 : 0 ≤ (x5_2 : Int) := of_decide_eq_true (by first | (with_reducible assumption) | assumption)
          have q195 : x5_2 < (l1_4.length : Int) := of_decide_eq_true (by first | (with_reducible assumption) | assumption)
          obtain ⟨ad195, e195, hx195_0, hx195_1⟩ := at_T29 HR1_4.out x5_2 p195 q195
          cases e195
          replace hx195_0 := (HB.out.cell (World.block_lt_of_cell? w _ hx195_0)).trans hx195_0
          replace hx195_1 := (HB.out.cell (World.block_lt_of_cell? w _ hx195_1)).trans hx195_1
          replace p195 := eq_true p195
          replace q195 := eq_true q195
          go_wp2
          repeat (go_quiet (fail); try go_wp2)
          go_ret
          exact ⟨by first | rfl | (simp [errW_none, errW_some] <;> rfl) | (simp [*, errW_none, errW_some] <;> rfl), by repeat (first | (with_reducible first | exact HB.out | apply below_alloc | apply pw_below_drewN | apply below_drew1 | refine below_set ?_ GE192.out | refine below_set ?_ GE193.out) | exact HB.out)⟩
         ·rw [if_neg c29] at H
          have c29b0 : (!((((rd_T29 l0_4 x5_2).f0).toList) == (((rd_T29 l1_4 x5_2).f0).toList)) || (!(((rd_T29 l0_4 x5_2).f1) == ((rd_T29 l1_4 x5_2).f1)))) = false := by simpa using c29
          clear c29
          have H' := Aside0.mk H
          clear H
          have hnb33 := NB192_193.out
          have hnc33 := NB193_192.out
          have hcz34_0 : wr.cell? ⟨gb192, 0, none⟩ = some (.int .i64 a0_0) := (blk_cell BK192.out 0).trans rfl
          have hcz34_1 : wr.cell? ⟨gb192, 1, none⟩ = some (.int .i64 a0_1) := (blk_cell BK192.out 1).trans rfl
          have hcz34_2 : wr.cell? ⟨gb192, 2, none⟩ = some (.string a0_2) := (blk_cell BK192.out 2).trans rfl
          have hcz34_3 : wr.cell? ⟨gb192, 3, none⟩ = some (.int .i64 a0_3) := (blk_cell BK192.out 3).trans rfl
          have hcz34_4 : wr.cell? ⟨gb192, 4, none⟩ = some (.slice A0_4 l0_4.length c0_4) := (blk_cell BK192.out 4).trans rfl
          have hcz34_5 : wr.cell? ⟨gb192, 5, none⟩ = some (.string a0_5) := (blk_cell BK192.out 5).trans rfl
          have hfz34_0 := blk_frozen BK192.out 0
          have hfz34_1 := blk_frozen BK192.out 1
          have hfz34_2 := blk_frozen BK192.out 2
          have hfz34_3 := blk_frozen BK192.out 3
          have hfz34_4 := blk_frozen BK192.out 4
          have hfz34_5 := blk_frozen BK192.out 5
          have p194 : 0 ≤ (x5_2 : Int) := of_decide_eq_true (by first | (with_reducible assumption) | assumption)
          have q194 : x5_2 < (l0_4.length : Int) := of_decide_eq_true (by first | (with_reducible assumption) | assumption)
          obtain ⟨ad194, e194, hx194_0, hx194_1⟩ := at_T29 HR0_4.out x5_2 p194 q194
          cases e194
          replace hx194_0 := (HB.out.cell (World.block_lt_of_cell? w _ hx194_0)).trans hx194_0
          replace hx194_1 := (HB.out.cell (World.block_lt_of_cell? w _ hx194_1)).trans hx194_1
          replace p194 := eq_true p194
          replace q194 := eq_true q194
          have hcz35_0 : wr.cell? ⟨gb193, 0, none⟩ = some (.int .i64 a1_0) := (blk_cell BK193.out 0).trans rfl
          have hcz35_1 : wr.cell? ⟨gb193, 1, none⟩ = some (.int .i64 a1_1) := (blk_cell BK193.out 1).trans rfl
          have hcz35_2 : wr.cell? ⟨gb193, 2, none⟩ = some (.string a1_2) := (blk_cell BK193.out 2).trans rfl
          have hcz35_3 : wr.cell? ⟨gb193, 3, none⟩ = some (.int .i64 a1_3) := (blk_cell BK193.out 3).trans rfl
          have hcz35_4 : wr.cell? ⟨gb193, 4, none⟩ = some (.slice A1_4 l1_4.length c1_4) := (blk_cell BK193.out 4).trans rfl
          have hcz35_5 : wr.cell? ⟨gb193, 5, none⟩ = some (.string a1_5) := (blk_cell BK193.out 5).trans rfl
          have hfz35_0 := blk_frozen BK193.out 0
          have hfz35_1 := blk_frozen BK193.out 1
          have hfz35_2 := blk_frozen BK193.out 2
          have hfz35_3 := blk_frozen BK193.out 3
          have hfz35_4 := blk_frozen BK193.out 4
          have hfz35_5 := blk_frozen BK193.out 5
          have p195 : 0 ≤ (x5_2 : Int) := of_decide_eq_true (by first | (with_reducible assumption) | assumption)
          have q195 : x5_2 < (l1_4.length : Int) := of_decide_eq_true (by first | (with_reducible assumption) | assumption)
          obtain ⟨ad195, e195, hx195_0, hx195_1⟩ := at_T29 HR1_4.out x5_2 p195 q195
          cases e195
          replace hx195_0 := (HB.out.cell (World.block_lt_of_cell? w _ hx195_0)).trans hx195_0
          replace hx195_1 := (HB.out.cell (World.block_lt_of_cell? w _ hx195_1)).trans hx195_1
          replace p195 := eq_true p195
          replace q195 := eq_true q195
          go_wp2
          repeat (go_quiet (fail); try go_wp2)
          go_roundg k2
          case measure => have := HJ2.out; have := HK2.out; omega
          case rel => exact ⟨(wrap64 (x5_2 + 1)), (by first | rfl | (simp; done) | (simp [*]; done) | (simp; exact (fun l : List UInt8 => (by cases l <;> rfl : l.isEmpty = !(l != []))) _)), H', ⟨by have := HJ2.out; have := HK2.out; omega⟩, ⟨by (with_reducible repeat (first | refine blk_drewN ?_ _ | refine blk_drew ?_ | refine blk_alloc ?_ _)); exact BK192.out⟩, ⟨by (with_reducible repeat (first | refine blk_drewN ?_ _ | refine blk_drew ?_ | refine blk_alloc ?_ _)); exact BK193.out⟩, ⟨by repeat (first | (with_reducible first | exact HB.out | apply below_alloc | apply pw_below_drewN | apply below_drew1 | refine below_set ?_ GE192.out | refine below_set ?_ GE193.out) | exact HB.out)⟩⟩
        ·rw [if_neg c28] at H
         exact absurd H (by simp)
       ·rw [if_neg c27] at H
        exact absurd H (by simp)
      ·rw [if_neg c26] at H
       have c26b0 : decide (x5_2 < (l0_4.length : Int)) = false := decide_eq_false c26
       clear c26
       obtain rfl := Option.some.inj H
       have hnb36 := NB192_193.out
       have hnc36 := NB193_192.out
       have hcz37_0 : wr.cell? ⟨gb192, 0, none⟩ = some (.int .i64 a0_0) := (blk_cell BK192.out 0).trans rfl
       have hcz37_1 : wr.cell? ⟨gb192, 1, none⟩ = some (.int .i64 a0_1) := (blk_cell BK192.out 1).trans rfl
       have hcz37_2 : wr.cell? ⟨gb192, 2, none⟩ = some (.string a0_2) := (blk_cell BK192.out 2).trans rfl
       have hcz37_3 : wr.cell? ⟨gb192, 3, none⟩ = some (.int .i64 a0_3) := (blk_cell BK192.out 3).trans rfl
       have hcz37_4 : wr.cell? ⟨gb192, 4, none⟩ = some (.slice A0_4 l0_4.length c0_4) := (blk_cell BK192.out 4).trans rfl
       have hcz37_5 : wr.cell? ⟨gb192, 5, none⟩ = some (.string a0_5) := (blk_cell BK192.out 5).trans rfl
       have hfz37_0 := blk_frozen BK192.out 0
       have hfz37_1 := blk_frozen BK192.out 1
       have hfz37_2 := blk_frozen BK192.out 2
       have hfz37_3 := blk_frozen BK192.out 3
       have hfz37_4 := blk_frozen BK192.out 4
       have hfz37_5 := blk_frozen BK192.out 5
       go_wp2
       repeat (go_quiet (fail); try go_wp2)
       go_ret
       exact ⟨by first | rfl | (simp [errW_none, errW_some] <;> rfl) | (simp [*, errW_none, errW_some] <;> rfl), by repeat (first | (with_reducible first | exact HB.out | apply below_alloc | apply pw_below_drewN | apply below_drew1 | refine below_set ?_ GE192.out | refine below_set ?_ GE193.out) | exact HB.out)⟩

end Go.Proofs.YtgaboenipiojoaaGreatDoor.QAll
end

section
/- The law CmdBlanks, walked by hand. -/
set_option linter.unusedVariables false
set_option linter.unusedSimpArgs false
namespace Go.Proofs.YtgaboenipiojoaaGreatDoor.QAll
open Go.RowKit Go.Proofs.YtgaboenipiojoaaGreatDoorW.PrintWords Go.Proofs.YtgaboenipiojoaaGreatDoorW.PrintLast Go.Proofs.YtgaboenipiojoaaGreatDoorW.PrintMore
def repB (new : List UInt8) (c : UInt8) : List UInt8 := if c = 32 then new else [c]
theorem index_step (c : UInt8) (l : List UInt8) (h : c ≠ 32) : Lib.index (c :: l) [32] = if Lib.index l [32] == -1 then -1 else Lib.index l [32] + 1 := by
 have hb : (c == 32) = false := by simpa using h
 rw [Lib.index_one, Lib.index_one]
 conv => lhs; unfold Lib.indexByte
 rw [hb]
 rfl
theorem repK (new : List UInt8) : ∀ s : List UInt8, Lib.replaceK [32] new (Lib.count s [32]) s = s.flatMap (repB new)
 | [] => rfl
 | c :: l => by
  have ih := repK new l
  rw [List.flatMap_cons]
  by_cases h : c = 32
  ·subst h
   have h0 : Lib.index (32 :: l) [32] = ((0 : Nat) : Int) := by rw [Lib.index_one]; rfl
   rw [Lib.count_cons_eq, Nat.add_comm, Lib.replaceK_hit _ _ _ _ 0 h0]
   simp [repB, ih]
  ·rw [Lib.count_cons_ne c 32 l h]
   have e : repB new c = [c] := by unfold repB; rw [if_neg h]
   rw [e, ← ih]
   cases hn : Lib.count l [32] with
   | zero => rfl
   | succ n =>
    obtain ⟨j, hj⟩ := Lib.index_of_count (s := l) (old := [32]) (by omega)
    have hj' : Lib.index (c :: l) [32] = ((j + 1 : Nat) : Int) := by
     rw [index_step c l h, hj]
     have : ((j : Int) == -1) = false := by simp
     rw [this]
     rfl
    rw [Lib.replaceK_hit _ _ _ _ _ hj', Lib.replaceK_hit _ _ _ _ _ hj]
    simp
theorem up_all : ((List.range 256).all fun n => Lib.upperB (UInt8.ofNat n) == Pure.upC (UInt8.ofNat n)) = true := by kernel_rfl
theorem up_eq (c : UInt8) : Lib.upperB c = Pure.upC c := by
 have h := List.all_eq_true.1 up_all c.toNat (List.mem_range.2 c.toNat_lt)
 have e : UInt8.ofNat c.toNat = c := by simp
 rw [e] at h
 exact eq_of_beq h
theorem flat_self : ∀ s : List UInt8, s.flatMap (repB [32]) = s
 | [] => rfl
 | c :: l => by
  rw [List.flatMap_cons, flat_self l]
  unfold repB
  by_cases h : c = 32
  ·rw [if_pos h, h]; rfl
  ·rw [if_neg h]; rfl
theorem rep_all (k : Nat) (s : List UInt8) : Lib.replaceAll s [32] (32 :: List.replicate k 32) = s.flatMap (repB (List.replicate (k + 1) 32)) := by
 unfold Lib.replaceAll Lib.replace
 have e : (32 : UInt8) :: List.replicate k 32 = List.replicate (k + 1) 32 := (List.replicate_succ).symm
 rw [e]
 by_cases hk : k = 0
 ·subst hk
  have h1 : (([32] : List UInt8) == List.replicate (0 + 1) 32) = true := by decide
  rw [if_pos h1]
  exact (flat_self s).symm
 ·have h1 : ¬ (([32] : List UInt8) == List.replicate (k + 1) 32) = true := by
   intro h2
   have := congrArg List.length (eq_of_beq h2)
   simp at this
   omega
  rw [if_neg h1]
  have h3 : Lib.replaceNum s [32] (-1) = Lib.count s [32] := by unfold Lib.replaceNum; rw [if_pos (Or.inl (by decide))]
  rw [h3, repK]
theorem up_rep (k : Nat) : ∀ s : List UInt8, Lib.toUpperA (s.flatMap (repB (List.replicate (k + 1) 32))) = Pure.sx k s
 | [] => rfl
 | c :: l => by
  have ih := up_rep k l
  unfold Lib.toUpperA at ih ⊢
  rw [List.flatMap_cons, List.map_append, ih, Pure.sx_cons]
  congr 1
  unfold repB Pure.strB
  by_cases h : c = 32
  ·rw [if_pos h, if_pos h, List.map_replicate]
   rfl
  ·rw [if_neg h, if_neg h]
   simp [up_eq]
theorem repL_one : ∀ k : Nat, Lib.repeatL [32] k = List.replicate k 32
 | 0 => rfl
 | k + 1 => by
  rw [Lib.repeatL, repL_one k, List.replicate_succ]
  rfl
theorem rep_len (k : Nat) : ∀ s : List UInt8, (s.flatMap (repB (List.replicate (k + 1) 32))).length ≤ s.length * (k + 1)
 | [] => by simp
 | c :: l => by
  have ih := rep_len k l
  rw [List.flatMap_cons, List.length_append, List.length_cons, Nat.succ_mul]
  have : (repB (List.replicate (k + 1) 32) c).length ≤ k + 1 := by
   unfold repB
   split <;> simp
  omega
theorem sx_len (k : Nat) (s : List UInt8) : (Pure.sx k s).length ≤ s.length * (k + 1) := by
 rw [← up_rep]
 unfold Lib.toUpperA
 rw [List.length_map]
 exact rep_len k s
theorem rep_asc (k : Nat) (s : List UInt8) (h : ∀ c ∈ s, c.toNat < 128) : ∀ c ∈ s.flatMap (repB (List.replicate (k + 1) 32)), c.toNat < 128 := by
 intro c hc
 obtain ⟨x, hx, hc⟩ := List.mem_flatMap.1 hc
 unfold repB at hc
 by_cases e : x = 32
 ·rw [if_pos e] at hc
  rw [(List.mem_replicate.1 hc).2]
  decide
 ·rw [if_neg e] at hc
  rw [List.mem_singleton.1 hc]
  exact h x hx
/-- Alike commands are the same. -/
theorem same_l0 (a b : Int) (c : ByteArray) (d : Int) (l : List S29) (t : ByteArray) : ∀ (j i : Nat), i + j = l.length → l.length < 100000 → squelchref25_Same.l0 (j + 1) i a b c d l t a b c d l t = some true
 | 0, i, h, hl => by
  unfold squelchref25_Same.l0
  rw [if_neg (by omega)]
 | j + 1, i, h, hl => by
  unfold squelchref25_Same.l0
  rw [if_pos (by omega), if_pos (by omega), if_pos (by omega)]
  have e : (!((((rd_T29 l i).f0).toList) == (((rd_T29 l i).f0).toList)) || (!(((rd_T29 l i).f1) == ((rd_T29 l i).f1)))) = false := by simp
  rw [e, if_neg (by decide)]
  have w : wrap64 ((i : Int) + 1) = ((i + 1 : Nat) : Int) := by
   have := show wrap64 ((i : Int) + 1) = (i : Int) + 1 by unfold wrap64; omega
   rw [this]; omega
  rw [w]
  exact same_l0 a b c d l t j (i + 1) (by omega) hl
theorem same_self (a b : Int) (c : ByteArray) (d : Int) (l : List S29) (t : ByteArray) (hl : l.length < 100000) : ∃ k, squelchref25_Same.f k a b c d l t a b c d l t = some true := by
 refine ⟨l.length + 2, ?_⟩
 unfold squelchref25_Same.f
 have e1 : (!(c.toList == c.toList) || (!(d == d))) = false := by simp
 have e2 : ((l.length : Int) != (l.length : Int)) = false := by simp
 rw [if_pos rfl, if_pos rfl, e1, if_neg (by decide), if_pos rfl, e2]
 rw [squelchref25_Same.j0, if_neg (by decide)]
 exact same_l0 a b c d l t l.length 0 (by omega) hl
theorem l29_ext : ∀ {l m : List S29}, l.map (fun x => (x.f0, x.f1)) = m.map (fun x => (x.f0, x.f1)) → l = m
 | [], [], _ => rfl
 | [], _ :: _, h => by simp at h
 | _ :: _, [], h => by simp at h
 | ⟨a, b⟩ :: l, ⟨c, d⟩ :: m, h => by
  simp only [List.map_cons, List.cons.injEq, Prod.mk.injEq] at h
  obtain ⟨⟨rfl, rfl⟩, h⟩ := h
  rw [l29_ext h]
theorem via_len : ∀ (l : List Pure.L8) (i : Nat) (out v : List (ByteArray × Int)) (r : Pure.L8), Pure.viaGo l i out = .got v r → out.length = i → i ≤ 8 → v.length ≤ 8
 | [], i, out, v, r, h, h1, h2 => by
  unfold Pure.viaGo at h
  injection h with a b
  subst a
  omega
 | w :: l, i, out, v, r, h, h1, h2 => by
  unfold Pure.viaGo at h
  split at h
  ·cases h
  ·split at h
   ·rename_i hi
    exact via_len l (i + 1) _ v r h (by simp [h1]) (by omega)
   ·cases h
theorem via_cases {α β : Type} {x : Pure.Rd α} {f : α → Pure.L8 → Pure.Rd β} {b : β} {r : Pure.L8} (h : x.bind f = .got b r) : ∃ a q, x = .got a q ∧ f a q = .got b r := by
 cases x with
 | got a q => exact ⟨a, q, rfl, h⟩
 | bad e => cases h
theorem body_via {k : Int} {m r : Pure.L8} {c : Pure.CmdM} (h : Pure.bodyN k m = .got c r) : c.via.length ≤ 8 := by
 unfold Pure.bodyN at h
 split at h
 ·cases h
 split at h
 ·obtain ⟨a, q, -, h⟩ := via_cases h
  split at h
  ·injection h with a b; subst a; exact Nat.zero_le _
  ·obtain ⟨v, z, h1, h⟩ := via_cases h
   injection h with a b
   subst a
   unfold Pure.viaN at h1
   obtain ⟨x, y, -, h1⟩ := via_cases h1
   split at h1
   ·split at h1
    ·cases h1
    ·exact via_len _ _ _ _ _ h1 rfl (by omega)
   ·cases h1
 split at h
 ·obtain ⟨a, q, -, h⟩ := via_cases h
  injection h with a b
  subst a
  exact Nat.zero_le _
 split at h
 ·obtain ⟨a, q, -, h⟩ := via_cases h
  injection h with a b
  subst a
  exact Nat.zero_le _
 split at h
 ·obtain ⟨a, q, -, h⟩ := via_cases h
  injection h with a b
  subst a
  exact Nat.zero_le _
 cases hb : Pure.bndN k with
 | some p =>
  rw [hb] at h
  obtain ⟨a, q, -, h⟩ := via_cases h
  injection h with a b
  subst a
  exact Nat.zero_le _
 | none =>
  rw [hb] at h
  injection h with a b
  subst a
  exact Nat.zero_le _
theorem parse_via (s : Pure.L8) : (Pure.parseN s).1.via.length ≤ 8 := by
 unfold Pure.parseN
 cases h : Pure.readN (Pure.nb s) with
 | bad e => exact Nat.zero_le _
 | got c r =>
  unfold Pure.readN at h
  split at h
  ·cases h
  ·obtain ⟨a, q, -, h⟩ := via_cases h
   obtain ⟨d, z, h1, h⟩ := via_cases h
   split at h
   ·injection h with x y
    subst x
    exact body_via h1
   ·cases h
theorem ba_of_list {a b : ByteArray} (h : a.data.toList = b.data.toList) : a = b := by
 obtain ⟨a⟩ := a
 obtain ⟨b⟩ := b
 congr 1
 exact Array.ext' h
theorem ba_len (s : ByteArray) : s.data.toList.length = s.size := by rw [Array.length_toList]; rfl
theorem cnt_le (s : ByteArray) (h : s.size ≤ 1000) (n : ByteArray) (hn : n.size ≤ 5) : s.size + Lib.countB s ⟨#[32]⟩ * n.size ≤ 140737488355328 := by
 have h1 : Lib.countB s ⟨#[32]⟩ ≤ 1001 := by
  have h2 : Lib.countB s ⟨#[32]⟩ = Lib.count s.data.toList [32] := rfl
  have h3 := Lib.count_le s.data.toList [32]
  rw [h2]
  rw [ba_len] at h3
  exact Nat.le_trans h3 (Nat.succ_le_succ h)
 have h4 : Lib.countB s ⟨#[32]⟩ * n.size ≤ 1001 * 5 := Nat.mul_le_mul h1 hn
 generalize Lib.countB s ⟨#[32]⟩ * n.size = z at h4
 omega
set_option maxRecDepth 100000 in
theorem spaces_calls (a0 bB : ByteArray) (q : Nat) (h : a0.size ≤ 1000) (hq : q < 5) (hz : bB.size = q) (hl : bB.data.toList = List.replicate q 32) (W : World) (hE : EnvW W) :
  Calls Tryz.prog 16 #[.string a0, .string ⟨#[32]⟩, .string (⟨#[32]⟩ ++ bB)] W fun e w' => (∃ rB : ByteArray, e = .returned (.string rB) ∧ rB.data.toList = a0.data.toList.flatMap (repB (List.replicate (q + 1) 32)) ∧ rB.size ≤ 5000) ∧ Below W.heap.size W w' := by
 obtain ⟨mx, hmx⟩ := hE.mx
 have hnz : ((⟨#[32]⟩ : ByteArray) ++ bB).size ≤ 5 := by
  rw [ByteArray.size_append]
  have : (⟨#[32]⟩ : ByteArray).size = 1 := rfl
  omega
 obtain ⟨nB, hnB⟩ : ∃ nB, (⟨#[32]⟩ : ByteArray) ++ bB = nB := ⟨_, rfl⟩
 have hnew : nB.data.toList = 32 :: List.replicate q 32 := by rw [← hl, ← hnB]; simp
 rw [hnB] at hnz ⊢
 clear hnB
 obtain ⟨oB, hoB⟩ : ∃ oB, (⟨#[32]⟩ : ByteArray) = oB := ⟨_, rfl⟩
 have hc := cnt_le a0 h nB hnz
 have hold : oB.data.toList = [32] := by rw [← hoB]
 have h1 : 1 ≤ oB.size := by rw [← hoB]; exact Nat.le_refl 1
 have hs : a0.size < 4294967281 := by omega
 rw [hoB] at hc ⊢
 clear hoB
 refine (Tryz.strings_ReplaceAll a0 oB nB mx W hs hmx h1 hc).mono ?_
 rintro e w8 ⟨rfl, hb8⟩
 refine ⟨?_, hb8⟩
 rw [hnew, hold, rep_all]
 obtain ⟨rB, hrB⟩ : ∃ rB : ByteArray, ⟨(a0.data.toList.flatMap (repB (List.replicate (q + 1) 32))).toArray⟩ = rB := ⟨_, rfl⟩
 have hrl : rB.data.toList = a0.data.toList.flatMap (repB (List.replicate (q + 1) 32)) := by rw [← hrB]
 rw [hrB]
 refine ⟨rB, rfl, hrl, ?_⟩
 have h2 := rep_len q a0.data.toList
 have h3 : a0.data.toList.length * (q + 1) ≤ 1000 * 5 := Nat.mul_le_mul (by rw [ba_len]; exact h) (by omega)
 rw [← ba_len, hrl]
 omega
set_option maxRecDepth 100000 in
theorem great_calls (a0 rB : ByteArray) (q : Nat) (h : a0.size ≤ 1000) (hq : q < 5) (hasc : ∀ c ∈ a0.data.toList, c.toNat < 128) (hrl : rB.data.toList = a0.data.toList.flatMap (repB (List.replicate (q + 1) 32))) (hrz : rB.size ≤ 5000) (W : World) :
  Calls Tryz.prog 15 #[.string rB] W fun e w' => (∃ uB : ByteArray, e = .returned (.string uB) ∧ uB.data.toList = Pure.sx q a0.data.toList ∧ uB.size ≤ 5000) ∧ Below W.heap.size W w' := by
 have HUP := Tryz.strings_ToUpper_ascii rB W (by omega) (fun j b hb => rep_asc q a0.data.toList hasc b (by rw [← hrl]; exact List.mem_of_getElem? hb))
 rw [hrl, up_rep] at HUP
 refine HUP.mono ?_
 rintro e w9 ⟨rfl, hb9⟩
 refine ⟨?_, hb9⟩
 obtain ⟨uB, huB⟩ : ∃ uB : ByteArray, ⟨(Pure.sx q a0.data.toList).toArray⟩ = uB := ⟨_, rfl⟩
 have hul : uB.data.toList = Pure.sx q a0.data.toList := by rw [← huB]
 rw [huB]
 refine ⟨uB, rfl, hul, ?_⟩
 have h2 := sx_len q a0.data.toList
 have h3 : a0.data.toList.length * (q + 1) ≤ 1000 * 5 := Nat.mul_le_mul (by rw [ba_len]; exact h) (by omega)
 rw [← ba_len, hul]
 omega
def squelchlaw25_CmdBlanks.f (k : Nat) (a0 : ByteArray) (a1 : Int) : Option Bool := if (0 ≤ a1 ∧ a1 < 256) ∧ a0.size ≤ 140737488351232 then some true else none
set_option maxHeartbeats 8000000 in
set_option maxRecDepth 100000 in
theorem squelchlaw25_CmdBlanks.calls (k : Nat) (a0 : ByteArray) (a1 : Int) (r : Bool) (w : World) (hE : EnvW w) (hT_ : r = true) (h : squelchlaw25_CmdBlanks.f k a0 a1 = some r) :
  Calls Tryz.prog 4 #[.string a0, .int .u8 a1] w fun e w' => e = .returned (.bool r) ∧ Below w.heap.size w w' := by
 subst hT_
 unfold squelchlaw25_CmdBlanks.f at h
 split at h
 ·rename_i ha
  clear h
  obtain ⟨c, rfl⟩ := Int.eq_ofNat_of_zero_le ha.1.1
  have hc : c < 256 := by omega
  have hbig : a0.size ≤ 140737488351232 := ha.2
  clear ha
  have HE := Aside0.mk hE
  clear hE
  have hu32 := Tryz.underlying32
  have HA := Aside0.mk (awake5_calls w HE.out)
  go_enter Tryz.func4, Tryz.ntmps4
  go_wp2_with (fail)
  refine HA.out.mono ?_
  rintro e w1 ⟨rfl, hb1⟩
  have HB1 := Aside0.mk hb1
  clear hb1 HA
  by_cases hlen : a0.size ≤ 1000
  ·have hlen' : ¬ ((1000 : Int) < (a0.size : Int)) := by omega
   obtain ⟨q, hq⟩ : ∃ q, c % 5 = q := ⟨_, rfl⟩
   have hq5 : q < 5 := by rw [← hq]; exact Nat.mod_lt _ (by decide)
   have hmod : ((c : Int)).tmod 5 = (q : Int) := by rw [← hq]; rfl
   have HR := Aside0.mk (Tryz.strings_Repeat ⟨#[32]⟩ q w1 (by omega) (by show 1 * q ≤ _; omega))
   clear hq
   go_wp2_with (fail)
   refine HR.out.mono ?_
   rintro e w2 ⟨rfl, hb2⟩
   have HB2 := Aside0.mk (HB1.out.trans (hb2.mono HB1.out.size))
   obtain ⟨bB, hbB⟩ : ∃ bB : ByteArray, ⟨(Lib.repeatL (⟨#[32]⟩ : ByteArray).data.toList q).toArray⟩ = bB := ⟨_, rfl⟩
   have hbl : bB.data.toList = List.replicate q 32 := by rw [← hbB, List.toList_toArray]; exact repL_one q
   have hbz : bB.size = q := by
    have : bB.size = bB.data.toList.length := by rw [Array.length_toList]; rfl
    rw [this, hbl, List.length_replicate]
   rw [hbB]
   have HBL := Aside0.mk hbl
   clear hb2 HB1 hbB hbl HR
   obtain ⟨⟨⟨ck, cn, ⟨cb, css⟩, cv, ct⟩, er⟩, hp⟩ : ∃ x, Pure.parseN a0.data.toList = x := ⟨_, rfl⟩
   have HP := Aside0.mk hp
   have HC1 := Aside0.mk (parse_at a0 (by omega) ck cn cb css cv ct er hp w2 (HE.out.below HB2.out))
   clear hp
   go_wp2_with (fail)
   refine HC1.out.mono ?_
   rintro e w3 ⟨hb3, l, tx, A1, cap1, rfl, htx, hvl, hC1, hcap1⟩
   have HB3 := Aside0.mk (below_then HB2.out HB2.out.size hb3)
   have HTX := Aside0.mk (And.intro htx hvl)
   have HR3 := Aside0.mk hC1
   have HW := Aside0.mk (show ∃ w4, w3.alloc (.cells #[.int .i64 ck, .int .i64 cn, .string cb, .int .i64 css, .slice A1 l.length cap1, .string tx] 32) = w4 ∧ Below w.heap.size w w4 ∧ w4.heap[w3.heap.size]? = some (.cells #[.int .i64 ck, .int .i64 cn, .string cb, .int .i64 css, .slice A1 l.length cap1, .string tx] 32 (0, 0)) ∧ Kd.C k29 w4 A1 l.length l from
    ⟨_, rfl, HB3.out.alloc HB3.out.size _, heap_alloc_new w3 _, Kd.C_alloc HR3.out _⟩)
   clear hb3 htx hvl hC1 HB2 HC1 HR3
   go_wp2_with (fail)
   obtain ⟨w4, h40, hB4, hG4, hC4⟩ := HW.out
   rw [h40]
   have hp2 : Pure.parseN (bB ++ a0 ++ bB).data.toList = (⟨ck, cn, (cb, css), cv, ct⟩, er) := by
    rw [← HP.out, ← Pure.parse_ends a0.data.toList q q, ← HBL.out]
    simp
   have hz2 : (bB ++ a0 ++ bB).size ≤ 1000000 := by rw [ByteArray.size_append, ByteArray.size_append]; omega
   have HC2 := Aside0.mk (parse_at (bB ++ a0 ++ bB) hz2 ck cn cb css cv ct er hp2 w4 (HE.out.below hB4))
   have HB4 := Aside0.mk hB4
   have HG4 := Aside0.mk hG4
   have HR4 := Aside0.mk hC4
   obtain ⟨g1, hg1⟩ : ∃ g1, w3.heap.size = g1 := ⟨_, rfl⟩
   rw [hg1] at HG4 ⊢
   clear h40 HW hB4 hG4 hC4 hp2 hz2 hg1 HB3
   refine HC2.out.mono ?_
   rintro e w5 ⟨hb5, l2, tx2, A2, cap2, rfl, htx2, hvl2, hC2, hcap2⟩
   obtain rfl : l2 = l := l29_ext (hvl2.symm.trans HTX.out.2)
   obtain rfl : tx2 = tx := ba_of_list (htx2.trans HTX.out.1.symm)
   have HB5 := Aside0.mk (below_then HB4.out HB4.out.size hb5)
   have HW := Aside0.mk (show ∃ w6, w5.alloc (.cells #[.int .i64 ck, .int .i64 cn, .string cb, .int .i64 css, .slice A2 l2.length cap2, .string tx2] 32) = w6 ∧ Below w.heap.size w w6 ∧ w6.heap[w5.heap.size]? = some (.cells #[.int .i64 ck, .int .i64 cn, .string cb, .int .i64 css, .slice A2 l2.length cap2, .string tx2] 32 (0, 0)) ∧ Kd.C k29 w6 A2 l2.length l2 ∧
     w6.heap[g1]? = some (.cells #[.int .i64 ck, .int .i64 cn, .string cb, .int .i64 css, .slice A1 l2.length cap1, .string tx2] 32 (0, 0)) ∧ Kd.C k29 w6 A1 l2.length l2 from
    ⟨_, rfl, HB5.out.alloc HB5.out.size _, heap_alloc_new w5 _, Kd.C_alloc hC2 _, blk_below (blk_below HG4.out hb5) (below_alloc (Below.refl _ _) _), Kd.C_alloc (Kd.C_below HR4.out hb5) _⟩)
   have hll : l2.length < 100000 := by
    have h1 := parse_via a0.data.toList
    rw [HP.out] at h1
    have h2 : cv.length = l2.length := by rw [HTX.out.2, List.length_map]
    have h3 : cv.length ≤ 8 := h1
    omega
   obtain ⟨ks, hks⟩ := same_self ck cn cb css l2 tx2 hll
   have HKS := Aside0.mk hks
   have HLL := Aside0.mk hll
   have HCAP := Aside0.mk (And.intro hcap1 hcap2)
   have hG5 := blk_below HG4.out hb5
   have hlt5 := blk_lt hG5
   obtain ⟨⟨c0, c1, c2, c3, c4, c5⟩, f0, f1, f2, f3, f4, f5⟩ := cells6 hG5
   clear hb5 htx2 hvl2 hC2 HG4 HR4 HB4 HC2 hll hks hcap1 hcap2 hG5
   have ebe : (er == er) = true := beq_self_eq_true _
   have ebn : (er != er) = false := by simp
   go_wp2_with (fail)
   obtain ⟨w6, h60, hB6, hG26, hC26, hG16, hC16⟩ := HW.out
   rw [h60]
   have hS := squelchref25_Same.calls ks ck cn cb css A1 cap1 l2 tx2 ck cn cb css A2 cap2 l2 tx2 true w6 hC16 HCAP.out.1 hC26 HCAP.out.2 HKS.out
   have HB6 := Aside0.mk hB6
   have HG16 := Aside0.mk hG16
   have HC16 := Aside0.mk hC16
   clear h60 HW hB6 hG26 hC26 hG16 hC16 HKS c0 c1 c2 c3 c4 c5 f0 f1 f2 f3 f4 f5 hlt5 HB5
   refine hS.mono ?_
   clear hS
   rintro e w7 ⟨rfl, hb7⟩
   have HB7 := Aside0.mk (below_then HB6.out HB6.out.size hb7)
   have HG7 := Aside0.mk (blk_below HG16.out hb7)
   have HR7 := Aside0.mk (Kd.C_below HC16.out hb7)
   clear hb7 HB6 HG16 HC16
   go_wp2_with (fail)
   go_loopw [10] (fun v10 wr => ∃ m : Nat, m ≤ a0.size ∧ v10 = .int .i64 m ∧ Aside0 (∀ j b, j < m → a0[j]? = some b → b.toNat < 128) ∧ wr = w7) (fun v10 _ => a0.size - (intOf v10).toNat)
   case atStart => exact ⟨0, Nat.zero_le _, rfl, ⟨fun j b h => absurd h (Nat.not_lt_zero _)⟩, rfl⟩
   case round =>
    obtain ⟨m, hm, rfl, HL, rfl⟩ := hrel
    by_cases hlt : m < a0.size
    ·by_cases h128 : 128 ≤ (a0[m]'hlt).toNat
     ·have h128' : (128 : Int) ≤ ((a0[m]'hlt).toNat : Int) := by omega
      go_wp2_with (fail)
      go_ret
      exact ⟨rfl, HB7.out⟩
     ·have h128' : ((a0[m]'hlt).toNat : Int) < 128 := by omega
      have HX := Aside0.mk (show ∀ j x, j < m + 1 → a0[j]? = some x → x.toNat < 128 from fun j x hj hx => by
       by_cases e : j = m
       ·rw [e, show a0[m]? = some (a0[m]'hlt) by simp [hlt]] at hx
        obtain rfl := Option.some.inj hx
        omega
       ·exact HL.out j x (by omega) hx)
      go_wp2_with (fail)
      go_roundw
      case rel => exact ⟨m + 1, by omega, by go_num, HX, trivial⟩
      case measure => simp [intOf] <;> omega
    ·obtain rfl : m = a0.size := by omega
     have HASC := Aside0.mk (show ∀ c ∈ a0.data.toList, c.toNat < 128 from fun x hx => by
      obtain ⟨j, hj, rfl⟩ := List.mem_iff_getElem.1 hx
      have hj' : j < a0.size := by simpa using hj
      exact HL.out j _ hj' (by rw [show a0[j]? = some (a0[j]'hj') by simp [hj']]; rfl))
     go_wp2_with (fail)
     have HSP := Aside0.mk (spaces_calls a0 bB q hlen hq5 hbz HBL.out wr (HE.out.below HB7.out))
     refine HSP.out.mono ?_
     rintro e w8 ⟨⟨rB, rfl, hrl, hrz⟩, hb8⟩
     have HB8 := Aside0.mk (below_then HB7.out HB7.out.size hb8)
     have HG8 := Aside0.mk (blk_below HG7.out hb8)
     have HR8 := Aside0.mk (Kd.C_below HR7.out hb8)
     have HUP := Aside0.mk (great_calls a0 rB q hlen hq5 HASC.out hrl hrz w8)
     clear hb8 HB7 HG7 HR7 hrl hrz HSP
     go_wp2_with (fail)
     refine HUP.out.mono ?_
     rintro e w9 ⟨⟨uB, rfl, hul, huz⟩, hb9⟩
     have HB9 := Aside0.mk (below_then HB8.out HB8.out.size hb9)
     have HG9 := Aside0.mk (blk_below HG8.out hb9)
     have HR9 := Aside0.mk (Kd.C_below HR8.out hb9)
     obtain ⟨⟨⟨dk, dn, ⟨db, dss⟩, dv, dt⟩, dr⟩, hd⟩ : ∃ x, Pure.parseN (Pure.sx q a0.data.toList) = x := ⟨_, rfl⟩
     have HD := Aside0.mk hd
     have HC3 := Aside0.mk (parse_at uB (by omega) dk dn db dss dv dt dr (by rw [hul]; exact hd) w9 (HE.out.below HB9.out))
     clear hb9 HB8 HG8 HR8 hul huz hd HUP
     go_wp2_with (fail)
     refine HC3.out.mono ?_
     rintro e w10 ⟨hb10, l3, tx3, A3, cap3, rfl, htx3, hvl3, hC3, hcap3⟩
     have HB10 := Aside0.mk (below_then HB9.out HB9.out.size hb10)
     have HW := Aside0.mk (show ∃ w11, w10.alloc (.cells #[.int .i64 dk, .int .i64 dn, .string db, .int .i64 dss, .slice A3 l3.length cap3, .string tx3] 32) = w11 ∧ Below w.heap.size w w11 ∧ w11.heap[w10.heap.size]? = some (.cells #[.int .i64 dk, .int .i64 dn, .string db, .int .i64 dss, .slice A3 l3.length cap3, .string tx3] 32 (0, 0)) ∧ Kd.C k29 w11 A3 l3.length l3 ∧
       w11.heap[g1]? = some (.cells #[.int .i64 ck, .int .i64 cn, .string cb, .int .i64 css, .slice A1 l2.length cap1, .string tx2] 32 (0, 0)) ∧ Kd.C k29 w11 A1 l2.length l2 from
      ⟨_, rfl, HB10.out.alloc HB10.out.size _, heap_alloc_new w10 _, Kd.C_alloc hC3 _, blk_below (blk_below HG9.out hb10) (below_alloc (Below.refl _ _) _), Kd.C_alloc (Kd.C_below HR9.out hb10) _⟩)
     have HTX3 := Aside0.mk (And.intro htx3 (And.intro hvl3 hcap3))
     have hG5 := blk_below HG9.out hb10
     have hlt5 := blk_lt hG5
     obtain ⟨⟨c0, c1, c2, c3, c4, c5⟩, f0, f1, f2, f3, f4, f5⟩ := cells6 hG5
     clear hb10 htx3 hvl3 hC3 hcap3 HG9 HR9 HC3 hG5 HB9
     have h22 : tx2.toList = [] ∨ (¬ tx2.toList = [] ∧ (tx2.toList == []) = false ∧ tx2.toList.isEmpty = false) := by
      by_cases h : tx2.toList = []
      ·exact Or.inl h
      ·exact Or.inr ⟨h, by simpa using h, by simpa using h⟩
     have h33 : tx3.toList = [] ∨ (¬ tx3.toList = [] ∧ (tx3.toList == []) = false ∧ tx3.toList.isEmpty = false) := by
      by_cases h : tx3.toList = []
      ·exact Or.inl h
      ·exact Or.inr ⟨h, by simpa using h, by simpa using h⟩
     by_cases he : er = 0
     ·subst he
      have hps := Pure.parse_sx q a0.data.toList HASC.out (by rw [HP.out])
      rw [HD.out, HP.out] at hps
      obtain ⟨hdr, hal⟩ := hps
      obtain rfl : dr = 0 := hdr
      obtain ⟨hk, hn, hd, hv, htt⟩ := hal
      obtain rfl : dk = ck := hk
      obtain rfl : dn = cn := hn
      have hd' : (db, dss) = (cb, css) := hd
      simp only [Prod.mk.injEq] at hd'
      obtain ⟨rfl, rfl⟩ := hd'
      obtain rfl : dv = cv := hv
      obtain rfl : l3 = l2 := l29_ext (HTX3.out.2.1.symm.trans HTX.out.2)
      clear hd
      rcases h22 with h22 | ⟨n2, m2, o2⟩
      ·rcases h33 with h33 | ⟨n3, m3, o3⟩
       ·have htx : tx3 = tx2 := by
         apply ba_of_list
         rw [← Go.ByteArray.toList_eq, ← Go.ByteArray.toList_eq, h22, h33]
        subst htx
        obtain ⟨ks, hks⟩ := same_self dk dn db dss l3 tx3 HLL.out
        go_wp2_with (fail)
        obtain ⟨w11, h110, hB11, hG11, hC11, hG12, hC12⟩ := HW.out
        rw [h110]
        refine (squelchref25_Same.calls ks dk dn db dss A3 cap3 l3 tx3 dk dn db dss A1 cap1 l3 tx3 true w11 hC11 HTX3.out.2.2 hC12 HCAP.out.1 hks).mono ?_
        rintro e w12 ⟨rfl, hb12⟩
        have HB12 := Aside0.mk (below_then hB11 hB11.size hb12)
        clear hb12 hB11 hG11 hC11 hG12 hC12 h110 HW hks
        go_wp2
        go_ret
        exact ⟨rfl, HB12.out⟩
       ·go_wp2
        go_ret
        obtain ⟨w11, h110, hB11, -⟩ := HW.out
        rw [h110]
        exact ⟨rfl, hB11⟩
      ·go_wp2
       go_ret
       obtain ⟨w11, h110, hB11, -⟩ := HW.out
       rw [h110]
       exact ⟨rfl, hB11⟩
     ·have he1 : (er == 0) = false := by simpa using he
      have he2 : (er != 0) = true := by simpa using he
      by_cases hde : dr = er
      ·have hd1 : (dr == er) = true := by simpa using hde
       rcases h22 with h22 | ⟨n2, m2, o2⟩
       ·rcases h33 with h33 | ⟨n3, m3, o3⟩
        ·go_wp2
         go_ret
         obtain ⟨w11, h110, hB11, -⟩ := HW.out
         rw [h110]
         exact ⟨rfl, hB11⟩
        ·go_wp2
         go_ret
         obtain ⟨w11, h110, hB11, -⟩ := HW.out
         rw [h110]
         exact ⟨rfl, hB11⟩
       ·go_wp2
        go_ret
        obtain ⟨w11, h110, hB11, -⟩ := HW.out
        rw [h110]
        exact ⟨rfl, hB11⟩
      ·have hd1 : (dr == er) = false := by simpa using hde
       rcases h22 with h22 | ⟨n2, m2, o2⟩
       ·rcases h33 with h33 | ⟨n3, m3, o3⟩
        ·go_wp2
         go_ret
         obtain ⟨w11, h110, hB11, -⟩ := HW.out
         rw [h110]
         exact ⟨rfl, hB11⟩
        ·go_wp2
         go_ret
         obtain ⟨w11, h110, hB11, -⟩ := HW.out
         rw [h110]
         exact ⟨rfl, hB11⟩
       ·go_wp2
        go_ret
        obtain ⟨w11, h110, hB11, -⟩ := HW.out
        rw [h110]
        exact ⟨rfl, hB11⟩
  ·have hlen' : ((1000 : Int) < (a0.size : Int)) := by omega
   go_wp2
   go_ret
   exact ⟨rfl, HB1.out⟩
 ·cases h
end Go.Proofs.YtgaboenipiojoaaGreatDoor.QAll
end

section
/- The plain law of CmdBlanks. -/
namespace Go.Proofs.YtgaboenipiojoaaGreatDoor.Pure
open Go.Proofs.YtgaboenipiojoaaGreatDoor.QAll
theorem CmdBlanks : ∀ (a0 : ByteArray) (a1 : Int), a0.size ≤ 140737488351232 → (Lit.int .u8 a1).wf = true → ∃ k, squelchlaw25_CmdBlanks.f k a0 a1 = some true := fun a0 a1 hz h => by
  have h' : decide (IntKind.u8.min ≤ a1) && decide (a1 ≤ IntKind.u8.max) = true := by simpa [Lit.wf] using h
  simp [IntKind.min, IntKind.max, IntKind.signed, IntKind.bits] at h'
  exact ⟨0, by unfold squelchlaw25_CmdBlanks.f; rw [if_pos ⟨by omega, hz⟩]⟩
end Go.Proofs.YtgaboenipiojoaaGreatDoor.Pure
end

section
/- From a row's listed variables, and the world's shape, to what the walks ask of the package's variables; and the wrap of a row that hands on both. -/
set_option linter.unusedVariables false
namespace Go.Proofs.YtgaboenipiojoaaGreatDoor.QAll
open Go.RowKit Go.Lib

theorem lz1 : Tryz.prog.globalNamed "strconv.ErrSyntax" = some 7 := by kernel_rfl
theorem lz2 : Tryz.prog.globalNamed "strconv.ErrRange" = some 8 := by kernel_rfl
theorem lz3 : Tryz.prog.globalNamed "internal/strconv.uint64pow10" = some 6 := by kernel_rfl
theorem lzt1 : (Tryz.prog.globals[7]?).map (·.type) = some 74 := by kernel_rfl
theorem lzt2 : (Tryz.prog.globals[8]?).map (·.type) = some 74 := by kernel_rfl
theorem lzt3 : (Tryz.prog.globals[6]?).map (·.type) = some 198 := by kernel_rfl
theorem lzu109 : Tryz.prog.underlying 74 = some (.interface #[("Error", 78)]) := by kernel_rfl
theorem tab_of_reads {W : World} {name : String} {k : IntKind} {zs : List Int} {g : Nat} {t e : TypeId} {n : Nat}
    (hg : Tryz.prog.globalNamed name = some g) (hty : (Tryz.prog.globals[g]?).map (·.type) = some t) (ht : Tryz.prog.underlying t = some (.array n e)) (he : Tryz.prog.underlying e = some (.int k)) (hce : Tryz.prog.cellsOf e = 1) (hct : Tryz.prog.cellsOf t = n)
    (h : VarReads Tryz.prog W name (tabData k zs)) : TabIs Tryz.prog W name k zs := by
  obtain ⟨g', t', cs, fuel, p, hg', ht', hvar, hd⟩ := h
  obtain rfl := Option.some.inj (hg.symm.trans hg')
  obtain rfl := Option.some.inj (hty.symm.trans ht')
  unfold TabIs
  rw [hvar, ← cells_of_tab ht he hce hct hd]
theorem err_of_reads {W : World} {name : String} {g : Nat} {nm : String} {d : DataW Unit}
    (hg : Tryz.prog.globalNamed name = some g) (hty : (Tryz.prog.globals[g]?).map (·.type) = some 74)
    (h : VarReads Tryz.prog W name (.iface nm d)) : ∃ ev, W.cell? ⟨g, 0, none⟩ = some ev ∧ (ev = .nilIface ∨ ∃ te pe, ev = .iface te pe) := by
  obtain ⟨g', t', cs, fuel, p, hg', ht', hvar, hd⟩ := h
  obtain rfl := Option.some.inj (hg.symm.trans hg')
  obtain rfl := Option.some.inj (hty.symm.trans ht')
  obtain ⟨fuel', u, v, hcs, _, _⟩ := iface_of_trod lzu109 hd
  refine ⟨.iface u v, ?_, Or.inr ⟨u, v, rfl⟩⟩
  have e : cs = #[.iface u v] := by apply Array.ext'; simpa using hcs
  subst e
  simpa using World.var?_cell hg hvar 0
theorem maxLen_shaped {W : World} (h : W.ShapedOpen Tryz.prog) : ∃ m, W.cell? ⟨3, 0, none⟩ = some (.int .i64 m) :=
  cell_of_shapedOpen_int (t := 3) (zero := #[.int .i64 0]) h (of_decide_eq_true (by kernel_rfl)) (by kernel_rfl) rfl (by kernel_rfl) (by kernel_rfl) Tryz.underlying3
def u8ren : Go.Shelf.Ren := ⟨fun n => n, fun | 5 => 5 | 119 => 131 | 138 => 166 | 139 => 167 | n => n, fun | 3 => 4 | 4 => 5 | n => n⟩
theorem u8types : U8Types Tryz.prog u8ren := ⟨by kernel_rfl, by kernel_rfl, by kernel_rfl, by kernel_rfl⟩
theorem u8extra : U8Extra Tryz.prog u8ren := ⟨by kernel_rfl, by kernel_rfl, by kernel_rfl, by kernel_rfl, by kernel_rfl, by kernel_rfl, by kernel_rfl⟩
theorem lz4 : Tryz.prog.globalNamed "strings.asciiSpace" = some 0 := by kernel_rfl
theorem lzt4 : (Tryz.prog.globals[0]?).map (·.type) = some 131 := by kernel_rfl
theorem first_same : (Rows.laid_unicode_utf8_first : DataW Unit) = firstData := by kernel_rfl
theorem accept_same : (Rows.laid_unicode_utf8_acceptRanges : DataW Unit) = acceptData := by kernel_rfl
theorem space_same : (Rows.laid_strings_asciiSpace : DataW Unit) = tabData .u8 Lib.asciiSpaceTab := by kernel_rfl
theorem env_of_laid {W : World} {l : List (String × DataW Unit)} (hsh : W.ShapedOpen Tryz.prog) (hL : laidMet Tryz.prog l W)
    (h1 : ("internal/strconv.uint64pow10", Rows.laid_internal_strconv_uint64pow10) ∈ l) (h2 : ("strconv.ErrRange", Rows.laid_strconv_ErrRange) ∈ l) (h3 : ("strconv.ErrSyntax", Rows.laid_strconv_ErrSyntax) ∈ l)
    (h4 : ("unicode/utf8.first", Rows.laid_unicode_utf8_first) ∈ l) (h5 : ("unicode/utf8.acceptRanges", Rows.laid_unicode_utf8_acceptRanges) ∈ l) (h6 : ("strings.asciiSpace", Rows.laid_strings_asciiSpace) ∈ l) : EnvW W := by
  refine ⟨maxLen_shaped hsh, err_of_reads lz1 lzt1 (laidMet.reads hL h3), err_of_reads lz2 lzt2 (laidMet.reads hL h2), ?_, ?_, ?_⟩
  · exact tab_of_reads (t := 198) (zs := Lib.pow10Tab) lz3 lzt3 Tryz.underlying198 Tryz.underlying121 (by kernel_rfl) (by kernel_rfl) (laidMet.reads hL h1)
  · have a := laidMet.reads hL h4
    have b := laidMet.reads hL h5
    rw [first_same] at a
    rw [accept_same] at b
    exact utf8Tabs_of_readsT u8types u8extra a b
  · have c := laidMet.reads hL h6
    rw [space_same] at c
    exact tab_of_reads (t := 131) (zs := Lib.asciiSpaceTab) lz4 lzt4 Tryz.underlying131 Tryz.underlying5 (by kernel_rfl) (by kernel_rfl) c

/-- The wrap of a row that lists variables, with the reach, the listed variables and the world's shape handed on. -/
theorem returns_laid_shaped {H : Type} {enc : TypeId × Value → H} {a : Assume} {C : Checked} {os : Os} {f : FuncId} {fn : Func} {s : ChangeSpec} {conds : List PathCond} {apart fresh handsOn again : Bool} {l : List (String × DataW Unit)}
    (own : ownKnob C.prog.godebug = none) (started : os.Started) (noInit : C.prog.inits.idxOf? f = none) (hfn : C.prog.funcs[f]? = some fn)
    (witness : ∃ (w : World) (tape : Tape) (i : Input), w.os = os ∧ (w.forCall tape i).Shaped C.prog ∧ i.vars = [] ∧ Input.okWide C.prog (w.forCall tape i) .any w.heap.size f i ∧
      ((s.pre enc C.prog fn conds apart (w.forCall tape i).memory i.args ∧ laidMetH C.prog l (w.forCall tape i).memory) ∧ sizedMet enc C.prog fn (OpenSpec.ofChange s) apart (w.forCall tape i).memory i.args) ∧ a.holds C.prog (lone (Frame.enter C.prog f i.args .normal) [] (w.forCall tape i)))
    (contract : ∀ (W : World) (base : Nat) (args : Array Value) (ds gs : List (DataW H)) (before : List MemPlace),
      (∀ (j : Nat) t v, fn.params[j]? = some t → args[j]? = some v → Value.okWide C.prog W .any base t v) →
      DataW.Whole enc C.prog fn.params.toList s.vars apart W args.toList ds gs before →
      conds.all (PathCond.test C.prog ⟨fn.params.toList, ds, s.plain.varTypes C.prog, gs⟩) = true →
      (DataW.weightsEach C.prog (fn.params.toList ++ s.plain.varTypes C.prog) (ds ++ gs)).all (· ≤ reachBytes) = true → laidMetH C.prog l W → W.ShapedOpen C.prog →
      Calls C.prog f args W fun e W' => ∃ v, e = .returned v ∧ s.post enc C.prog fn apart fresh handsOn again W args v W') :
    ReturnsInHanded a C os f .any (fun w args => (s.pre enc C.prog fn conds apart w args ∧ laidMetH C.prog l w) ∧ sizedMet enc C.prog fn (OpenSpec.ofChange s) apart w args) (s.post enc C.prog fn apart fresh handsOn again) := by
  refine returnsInHanded_of_calls own started noInit witness ?_
  intro w tape i _ hsh _ hok hpre hholds
  obtain ⟨_, _, _, fn', hfn', _, _, _, _, hval⟩ := hok
  have e : fn' = fn := Option.some.inj (hfn'.symm.trans hfn)
  subst e
  obtain ⟨⟨⟨ds, gs, before, hw, hc⟩, hx⟩, hz⟩ := hpre
  have hw' := DataW.Whole.of_heap (w' := w.forCall tape i) (by rfl) hw
  refine (contract (w.forCall tape i) w.heap.size i.args ds gs before hval hw' hc (hz.weights hw) (laidMetH.of_heap (by rfl) hx) hsh).mono fun e W' ⟨v, he, hp⟩ => ?_
  subst he
  exact ChangeSpec.post_blind hp
end Go.Proofs.YtgaboenipiojoaaGreatDoor.QAll
end

section
/- The statement that the law squelchlaw25.CmdBlanks is true of every input, its arguments left as they were: the row, out of its walk and its plain law. Written by a program of this session (wip/pp/row.py). -/
namespace Go.Proofs.YtgaboenipiojoaaGreatDoor.cmdBlanksRow
open Go.ChangeShapes Go.WideShapes Go.ChangeAt Go.RowKit
open Go.ChangeMaps (open_string shut_string)
set_option linter.unusedVariables false
set_option linter.unusedSimpArgs false
theorem own : ownKnob Tryz.prog.godebug = none := by kernel_rfl
theorem laidOut : laidOutB Tryz.prog = true := by kernel_rfl
theorem met (os : Os) (args : Array Value) : laidMetH Tryz.prog Rows.cmdBlanksRow.laid ((World.laidAll Tryz.prog os Rows.cmdBlanksRow.laid).forCall (fun _ _ => 0) ⟨#[], args, []⟩).memory :=
  (show laidMet Tryz.prog Rows.cmdBlanksRow.laid _ from laidMet_laidAll _ (by kernel_rfl) (by kernel_rfl))
set_option maxRecDepth 100000 in
theorem lifted (os : Os) (started : os.Started) (H : Type) (enc : TypeId × Value → H) :
    ReturnsInHanded {} Tryz.checked os 4 .any (fun w args => (Rows.cmdBlanksSpec.pre enc Tryz.prog Tryz.f4 Rows.cmdBlanksRow.domain false w args ∧ laidMetH Tryz.prog Rows.cmdBlanksRow.laid w) ∧ sizedMet enc Tryz.prog Tryz.f4 (OpenSpec.ofChange Rows.cmdBlanksSpec) false w args) (Rows.cmdBlanksSpec.post enc Tryz.prog Tryz.f4 false true false false) := by
  refine QAll.returns_laid_shaped (C := Tryz.checked) own started (by kernel_rfl) Tryz.func4
    (ChangeSpec.witness_shaped (enc := enc) (C := Tryz.checked) (os := os) (X := fun w _ => laidMetH Tryz.prog Rows.cmdBlanksRow.laid w) false (World.laidAll Tryz.prog os Rows.cmdBlanksRow.laid) #[.string ByteArray.empty, .int .u8 0] 8 (World.laidAll_os _ _ _) (World.shaped_of_ZipB (by kernel_rfl) (by kernel_rfl)) (by kernel_rfl) (by kernel_rfl) (by kernel_rfl) (met os _)) ?_
  intro W base args ds gs before hval0 hW hcnd hsz0 hL hsh
  have hE : QAll.EnvW W := QAll.env_of_laid hsh (show laidMet Tryz.prog Rows.cmdBlanksRow.laid W from hL) (by simp [Rows.cmdBlanksRow]) (by simp [Rows.cmdBlanksRow]) (by simp [Rows.cmdBlanksRow]) (by simp [Rows.cmdBlanksRow]) (by simp [Rows.cmdBlanksRow]) (by simp [Rows.cmdBlanksRow])
  have hsz : (DataW.weightsEach Tryz.prog (Tryz.f4.params.toList ++ Rows.cmdBlanksSpec.plain.varTypes Tryz.prog) (ds ++ gs)).all (· ≤ reachBytes) = true := hsz0
  have hval : ∀ (j : Nat) t v, Tryz.f4.params[j]? = some t → args[j]? = some v → Value.okWide Tryz.prog W .any base t v := hval0
  have hW' := hW
  obtain ⟨p, q, hA0, hV, rfl, hfz, hnd⟩ := hW
  have hA : DataW.TrodAll enc Tryz.prog W 0 (fun _ => true) true Tryz.f4.params.toList args.toList ds p := hA0
  rw [Tryz.params4] at hA hval hsz
  obtain ⟨v0, vs0, d0, ds0, p0, q0, hargs, rfl, rfl, h0, r0⟩ := trodAll_cons hA
  obtain ⟨v1, vs1, d1, ds1, p1, q1, rfl, rfl, rfl, h1, r1⟩ := trodAll_cons r0
  obtain ⟨rfl, rfl, rfl⟩ := trodAll_nil r1
  obtain rfl : args = #[v0, v1] := by cases args; simp_all
  obtain ⟨rfl, rfl⟩ := trodVars_none hV
  have k0 := h0
  have lt0 : ∀ x ∈ p0, x.block < W.heap.size := by obtain ⟨m, hm⟩ := k0; exact DataW.trod_lt m _ _ _ hm
  obtain ⟨a0, rfl, rfl, rfl, ma0⟩ := open_string Tryz.underlying9 (hval 0 9 v0 rfl rfl) h0
  have k1 := h1
  have lt1 : ∀ x ∈ p1, x.block < W.heap.size := by obtain ⟨m, hm⟩ := k1; exact DataW.trod_lt m _ _ _ hm
  obtain ⟨a1, rfl, rfl, rfl, wa1⟩ := open_int Tryz.underlying5 (hval 1 5 v1 rfl rfl) h1
  have hz : a0.size ≤ 140737488351232 := by
    have z := hsz
    skip
    simp [DataW.weightsEach, DataW.weights, reachBytes, Tryz.underlying5, Tryz.underlying9] at z
    first | omega | exact of_decide_eq_true z | exact of_decide_eq_true z.1 | exact of_decide_eq_true z.2 | exact of_decide_eq_true z.2.1
  have za0 := hz
  clear hA0 hval0 hsz0 hsz
  obtain ⟨k, hp⟩ := Pure.CmdBlanks a0 a1 za0 wa1
  refine (QAll.squelchlaw25_CmdBlanks.calls k a0 a1 true W hE rfl hp).mono fun e W' ⟨he, bel⟩ => ?_
  subst he
  exact ⟨_, rfl, _, _, _, [], _, [], hW', trodAll_mk1 (shut_bool Tryz.underlying4 _), (trodAll_cons_mk (Below.trod laidOut (by kernel_rfl) (of_decide_eq_true (by kernel_rfl)) k0 bel lt0) (trodAll_cons_mk (Below.trod laidOut (by kernel_rfl) (of_decide_eq_true (by kernel_rfl)) k1 bel lt1) trodAll_mk0)), rfl, bel.frame _, fun h => by cases h⟩
theorem over : Rows.cmdBlanksRow.holds Tryz.pinned (OpenSpec.ofChange Rows.cmdBlanksSpec) :=
  OpenClaim.holds_of_wide 4 Tryz.f4 rfl rfl rfl rfl rfl rfl rfl ⟨rfl, rfl, rfl, rfl, rfl⟩ rfl rfl rfl rfl rfl (by kernel_rfl) Tryz.func4 (by kernel_rfl)
    (of_decide_eq_true (by kernel_rfl)) (by unfold Func.isWrapper; first | (rw [if_pos (by decide +kernel)]; kernel_rfl) | (rw [if_neg (by decide +kernel)]; exact ⟨rfl, rfl⟩))
    (fun os started H enc _ => lifted os started H enc)
theorem card : Rows.CmdBlanksCardSaid :=
  Claim7.holds_tied_plain_at .later [] [.data, .data, .data, .data, .sentinel, .sentinel, .listed, .data, .pinned, .pinned] true (true, "0d74bf6dcd223bde804431f584e3ebb3b310f172bf0644cccbcc099a9d7da62b") true
    over (fun _ h => by cases h) (by kernel_rfl) (fun _ h => by cases h) cmdBlanks_row_tie rfl ⟨rfl, rfl⟩ (by kernel_rfl) rfl
    (fun f fn hf hfn => by
      obtain rfl : f = 4 := Option.some.inj ((show Tryz.prog.funcNamed "squelch/squelchlaw25.CmdBlanks" = some 4 by kernel_rfl).symm.trans hf) |>.symm
      obtain rfl : fn = Tryz.f4 := (Option.some.inj (Tryz.func4.symm.trans hfn)).symm
      exact ⟨by kernel_rfl, fun j t ht => by
        rw [Tryz.params4] at ht
        have hm := Array.mem_of_getElem? ht
        simp at hm
        rcases hm with rfl | rfl
        · exact (show Tryz.prog.wantsStandIn 9 = false by kernel_rfl)
        · exact (show Tryz.prog.wantsStandIn 5 = false by kernel_rfl)
      ⟩)
    (by kernel_rfl)
end Go.Proofs.YtgaboenipiojoaaGreatDoor.cmdBlanksRow
namespace Go.Proofs.YtgaboenipiojoaaGreatDoor
theorem cmdBlanks_holds : Rows.CmdBlanksCardSaid := cmdBlanksRow.card
#print axioms cmdBlanks_holds
end Go.Proofs.YtgaboenipiojoaaGreatDoor
end
