/- The row of the law CmdNames, out of its walks and its plain law. -/
import Derived.Test.YtgaboenipiojoaaGreatDoorMCmdNames0
import Derived.Defers
import Derived.Recover
import Derived.Laws.Tables
import Derived.Great.BuildSlice
import Derived.MapKept
import Derived.Test.YtgaboenipiojoaaGreatDoorRows
import Derived.Lib.LaidU8
import Derived.Lib.LaidU8T
import Derived.Lay
import Derived.Handed
import Derived.SizedLaws
import Derived.LaidLaws
import Derived.Shelf.Vars
import Derived.LaidHandle
import Derived.Stop.Joined
import Derived.Test.YtgaboenipiojoaaGreatDoorTie
import Derived.Test.YtgaboenipiojoaaGreatDoorCards
import Derived.WalkKit
import Derived.ProofKit
import Derived.OpenShut
import Derived.ShutString
import Derived.ChangeOld
import Derived.Below
import Derived.Lib.SmallJoins
import Derived.Deep.Slices
import Derived.Deep.Fields
import Derived.ChangeSame
section
/- cmd's reader: via, the digipeaters. -/
set_option linter.unusedVariables false
set_option linter.unusedSimpArgs false
namespace Go.Proofs.YtgaboenipiojoaaGreatDoor.QAll
open Go.RowKit Go.Proofs.YtgaboenipiojoaaGreatDoorW.PrintWords Go.Proofs.YtgaboenipiojoaaGreatDoorW.PrintLast Go.Proofs.YtgaboenipiojoaaGreatDoorW.PrintMore
theorem info29 : (Tryz.prog.info? 29).map (fun i => (i.zero, i.size, i.bytes)) = some (some (.agg #[(.string ⟨#[]⟩), (.int .i64 0)]), 2, 24) := by kernel_rfl
theorem fieldsGo_size : ∀ (l cur : List UInt8), ∀ x ∈ Pure.fieldsGo l cur, x.length ≤ l.length + cur.length
  | [], cur, x, hx => by
    unfold Pure.fieldsGo at hx
    split at hx
    · cases hx
    · obtain rfl := List.mem_singleton.1 hx
      omega
  | c :: l, cur, x, hx => by
    unfold Pure.fieldsGo at hx
    simp only [List.length_cons]
    split at hx
    · split at hx
      · have := fieldsGo_size l [] x hx
        simp only [List.length_nil] at this
        omega
      · rcases List.mem_cons.1 hx with rfl | h
        · omega
        · have := fieldsGo_size l [] x h
          simp only [List.length_nil] at this
          omega
    · have := fieldsGo_size l (cur ++ [c]) x hx
      rw [List.length_append, List.length_singleton] at this
      omega
theorem fields_sizes (s x : ByteArray) (h : x ∈ Lib.goFieldsP Pure.sepR s) : x.size ≤ s.size := by
  have h1 : x.data.toList ∈ Pure.fieldsB s.data.toList := by
    rw [← Pure.fields_bytes]
    exact List.mem_map.2 ⟨x, h, rfl⟩
  have h2 := fieldsGo_size _ _ _ h1
  simpa using h2
/-- The digipeaters in memory. -/
def viaP (w0 w : World) (a : List (ByteArray × Int)) (v : Value) (w' : World) : Prop :=
  ∃ l : List S29, a = l.map (fun x => (x.f0, x.f1)) ∧ Kd.R k29 29 w' w0.heap.size (fun k => w.heap.size ≤ k) v l
set_option maxHeartbeats 4000000 in
set_option maxRecDepth 100000 in
theorem via_calls (w0 : World) (g : Nat) (s : ByteArray) (hs : s.size ≤ 1000000) (w : World) (h0 : At0 w0 g s w) :
    Calls Tryz.prog 63 #[.pointer (some ⟨g, 0, none⟩)] w (RdP g s.size (viaP w0 w) (Pure.viaN (Pure.nb s.data.toList)) w) := by
  have H0 := Aside0.mk h0
  clear h0
  have hu29 := Tryz.underlying29
  have HW := Aside0.mk (word_calls g s hs _ H0.out.a)
  cases hw : Pure.wordN (Pure.nb s.data.toList) with
  | bad k =>
    have HX := Aside0.mk (show Pure.viaN (Pure.nb s.data.toList) = .bad k by simp only [Pure.viaN, hw, Pure.Rd.bind])
    rw [hw] at HW
    clear hw
    go_enter Tryz.func63, Tryz.ntmps63
    go_wp2_with (fail)
    refine HW.out.mono ?_
    rintro e w1 ⟨hk, he⟩
    obtain rfl : e = wrongE k := he
    have HK := Aside0.mk hk
    clear hk
    go_wp2
    refine ⟨rfl, HK.out, ?_⟩
    rw [HX.out]
  | got a r =>
    have HXX := Aside0.mk (show Pure.viaN (Pure.nb s.data.toList) = if Pure.begN [86, 73, 65] a = true then (if Pure.fieldsB r = [] then .bad 4 else Pure.viaGo (Pure.fieldsB r) 0 []) else .bad 2 by simp only [Pure.viaN, hw, Pure.Rd.bind])
    rw [hw] at HW
    clear hw
    go_enter Tryz.func63, Tryz.ntmps63
    go_wp2_with (fail)
    refine HW.out.mono ?_
    rintro e w1 ⟨hk, v, s', rfl, ⟨t, rfl, ht, hts⟩, ha, hr, hs'⟩
    have H2 := Aside0.mk (H0.out.kb hk ha)
    have HK := Aside0.mk hk
    have HC := Aside0.mk (begins_calls ⟨#[86, 73, 65]⟩ t (by omega) w1 H2.out.env)
    have HF := Aside0.mk (And.intro hr hs')
    rw [ht] at HC
    clear hk ha hr
    have HFB := Aside0.mk (show Pure.fieldsB r = (Lib.goFieldsP Pure.sepR s').map (·.data.toList) by rw [← HF.out.1, ← Pure.fields_nb, Pure.fields_bytes])
    cases hbg : Pure.begN [86, 73, 65] a with
    | false =>
      have HX := Aside0.mk (show Pure.viaN (Pure.nb s.data.toList) = .bad 2 by rw [HXX.out, hbg]; rfl)
      rw [show Pure.begN (⟨#[86, 73, 65]⟩ : ByteArray).data.toList a = false from hbg] at HC
      clear hbg HXX
      go_wp2_with (fail)
      refine HC.out.mono ?_
      rintro e w2 ⟨rfl, hb2⟩
      have HK3 := Aside0.mk (HK.out.trans (KB.of_below hb2))
      clear hb2
      go_wp2_with (fail)
      refine (must_bad 2 _).mono ?_
      rintro e w3 ⟨rfl, rfl⟩
      go_wp2
      refine ⟨rfl, HK3.out, ?_⟩
      rw [HX.out]
    | true =>
      have HX1 := Aside0.mk (show Pure.viaN (Pure.nb s.data.toList) = if Pure.fieldsB r = [] then .bad 4 else Pure.viaGo (Pure.fieldsB r) 0 [] by rw [HXX.out, hbg]; rfl)
      rw [show Pure.begN (⟨#[86, 73, 65]⟩ : ByteArray).data.toList a = true from hbg] at HC
      clear hbg HXX
      go_wp2_with (fail)
      refine HC.out.mono ?_
      rintro e w2 ⟨rfl, hb2⟩
      have H3 := Aside0.mk (H2.out.below hb2)
      have HK3 := Aside0.mk (HK.out.trans (KB.of_below hb2))
      clear hb2
      have HFF := Aside0.mk (Tryz.strings_FieldsFunc 93 #[] (enters_of Tryz.func93 (by kernel_rfl) rfl) Pure.sepR s' w2 (by omega) (fun W x hx _ => sep1_calls x hx W))
      obtain ⟨hc2, hf2⟩ := H3.out.a.cell
      go_wp2_with (fail)
      refine (must_ok 2 _).mono ?_
      rintro e w2' ⟨rfl, rfl⟩
      go_wp2_with (fail)
      refine HFF.out.mono ?_
      rintro e w3 ⟨A, rfl, hA, hown, hb3⟩
      have HSz := Aside0.mk (fun x hx => fields_sizes s' x hx)
      generalize Lib.goFieldsP Pure.sepR s' = ws at HFB HSz hown ⊢
      have H4 := Aside0.mk (H3.out.below hb3)
      have HK4 := Aside0.mk (HK3.out.trans (KB.of_below hb3))
      have hwz : w.heap.size ≤ w2'.heap.size := HK3.out.size
      have hgw : g < w.heap.size := H0.out.a.lt
      have HR3 := Aside0.mk (show Kd.R Kd.string 9 w3 w2'.heap.size (fun k => k = A) (.slice (some ⟨A, 0, none⟩) ws.length ws.length) ws from Kd.R_of_own (xs := ws) hown (fun k hk => by simpa [Value.ownBlock, eq_comm] using hk))
      clear hown hb3 HFF
      obtain ⟨hc3, hf3⟩ := H4.out.a.cell
      by_cases hn : ws = []
      · subst hn
        have HX := Aside0.mk (show Pure.viaN (Pure.nb s.data.toList) = .bad 4 by rw [HX1.out, HFB.out]; rfl)
        go_wp2_with (fail)
        refine (must_bad 4 _).mono ?_
        rintro e w5 ⟨rfl, rfl⟩
        go_wp2
        refine ⟨rfl, HK4.out.trans (KB.set g _ _), ?_⟩
        rw [HX.out]
      · have hn0 : 0 < ws.length := by
          cases ws with
          | nil => exact absurd rfl hn
          | cons => simp
        have HX := Aside0.mk (show Pure.viaN (Pure.nb s.data.toList) = Pure.viaGo (ws.map (·.data.toList)) 0 [] by
          rw [HX1.out, HFB.out, if_neg (by simpa using hn)])
        clear HX1 HFB hn
        go_wp2_with (fail)
        refine (must_ok 4 _).mono ?_
        rintro e w5 ⟨rfl, hw5⟩
        have H5 := Aside0.mk (show At0 w0 g ⟨#[]⟩ w5 by rw [hw5]; exact H4.out.kb (KB.set g _ _) (H4.out.a.set _))
        have HK5 := Aside0.mk (show KB g w w5 by rw [hw5]; exact HK4.out.trans (KB.set g _ _))
        have HV5 : Aside0 (Kd.V Kd.string 9 w5 0 (fun k => w.heap.size ≤ k ∧ k < w5.heap.size) (.slice (some ⟨A, 0, none⟩) ws.length ws.length) ws) := by
          refine ⟨?_⟩
          have hr := Kd.R_far HR3.out (p := ⟨g, 0, none⟩) (fun k hk => by have := hk; show k ≠ g; omega) (.string ⟨#[]⟩)
          rw [← hw5] at hr
          exact Kd.V_mono (Kd.R_V (Kd.R_bound hr)) (fun k hk => ⟨by have := hk.1; omega, hk.2.2.1⟩)
        clear hw5 H4 HK4 HR3 hc3 hf3 hc2 hf2
        obtain ⟨B, hB⟩ : ∃ B, w5.heap.size = B := ⟨_, rfl⟩
        rw [hB] at HV5
        have hwB : w.heap.size ≤ B := by rw [← hB]; exact HK5.out.size
        have HBs := Aside0.mk (show B ≤ w5.heap.size by omega)
        have HN : Aside0 (Kd.R k29 29 w5 w0.heap.size (fun k => B ≤ k) (.slice none 0 0) ([] : List S29)) := ⟨Kd.R_nil _ _ _ _ _⟩
        have hg0 : w0.heap.size ≤ g := H0.out.hg
        clear hB
        go_wp2_with (fail)
        go_loopw [3, 26] (fun v3 v26 wr => ∃ (i : Nat) (l : List S29), i ≤ ws.length ∧ l.length = i ∧ v26 = .int .i64 i ∧ Aside0 (Pure.viaN (Pure.nb s.data.toList) = Pure.viaGo ((ws.drop i).map (·.data.toList)) i (l.map (fun x => (x.f0, x.f1)))) ∧ Aside0 (Kd.R k29 29 wr w0.heap.size (fun k => B ≤ k) v3 l) ∧ Aside0 (At0 w0 g ⟨#[]⟩ wr) ∧ Aside0 (KB g w wr) ∧ Aside0 (Kd.V Kd.string 9 wr 0 (fun k => w.heap.size ≤ k ∧ k < B) (.slice (some ⟨A, 0, none⟩) ws.length ws.length) ws) ∧ Aside0 (B ≤ wr.heap.size)) (fun _ v26 _ => ws.length - (intOf v26).toNat)
        case atStart => exact ⟨0, [], by omega, rfl, rfl, HX, HN, H5, HK5, HV5, HBs⟩
        case round =>
          clear HX HN H5 HK5 HV5 HBs
          obtain ⟨i, l, hi, hli, rfl, HX, HR1, HQr, HKr, HVr, HBr⟩ := hrel
          by_cases hlt : i < ws.length
          · obtain ⟨hn1, hn2, hcj⟩ := Kd.V_reads' HVr.out
            obtain ⟨ad', hA', hx⟩ := Kd.at_string hcj (i : Int) (by omega) (by omega)
            obtain rfl := Option.some.inj hA'
            rw [Int.toNat_natCast, show rdOf ByteArray.empty ws (i : Int) = ws[i]'hlt by (unfold rdOf; rw [Int.toNat_natCast, List.getD_eq_getElem?_getD, List.getElem?_eq_getElem hlt]; rfl)] at hx
            have hsi : (ws[i]'hlt).size ≤ s'.size := HSz.out _ (List.getElem_mem hlt)
            have hdr : ws.drop i = ws[i]'hlt :: ws.drop (i + 1) := List.drop_eq_getElem_cons hlt
            have HD := Aside0.mk hdr
            clear hn1 hn2 hcj hdr
            generalize ws[i]'hlt = x at hx hsi HD ⊢
            have hx2 : wr.cell? ⟨A, i, none⟩ = some (.string x) := by
              by_cases i0 : i = 0
              · subst i0; simpa [Addr.add] using hx
              · simpa [Addr.add, i0] using hx
            clear hx
            have HCA := Aside0.mk (called_calls x (by omega) wr HQr.out.env)
            go_wp2_with (fail)
            refine HCA.out.mono ?_
            rintro e w7 ⟨hb7, he⟩
            cases hc : Pure.callM x.data.toList with
            | none =>
              rw [hc] at he
              obtain rfl : e = wrongE 12 := he
              have HZ := Aside0.mk (show Pure.viaN (Pure.nb s.data.toList) = .bad 12 by rw [HX.out, HD.out, List.map_cons]; unfold Pure.viaGo; rw [hc])
              have HK7 := Aside0.mk (HKr.out.trans (KB.of_below hb7))
              clear hc hb7
              go_wp2
              refine ⟨rfl, HK7.out, ?_⟩
              rw [HZ.out]
            | some c =>
              rw [hc] at he
              obtain rfl : e = .returned (encC c) := he
              unfold encC
              have hb8 : Below wr.heap.size wr (w7.alloc (.cells #[.string c.1, .int .i64 c.2] 29 (0, 0))) := hb7.alloc hb7.size _
              have HQ8 := Aside0.mk (HQr.out.below hb8)
              have HK8 := Aside0.mk (HKr.out.trans (KB.of_below hb8))
              have HR8 := Aside0.mk (Kd.R_below HR1.out hb8)
              have HV8 := Aside0.mk (Kd.V_below HVr.out hb8)
              have HB8 := Aside0.mk (Nat.le_trans HBr.out hb8.size)
              have HG8 := Aside0.mk (heap_alloc_new w7 (.cells #[.string c.1, .int .i64 c.2] 29 (0, 0)))
              have HS := Aside0.mk (show Pure.viaN (Pure.nb s.data.toList) = if i < 8 then Pure.viaGo ((ws.drop (i + 1)).map (·.data.toList)) (i + 1) (l.map (fun x => (x.f0, x.f1)) ++ [c]) else .bad 11 by
                rw [HX.out, HD.out, List.map_cons]
                conv => lhs; unfold Pure.viaGo
                rw [hc])
              clear hc HX HD HQr HKr HR1 HVr HBr hx2 HCA
              by_cases h8 : i < 8
              · have h8' : (i : Int) < 8 := by omega
                have HZ := Aside0.mk (show Pure.viaN (Pure.nb s.data.toList) = Pure.viaGo ((ws.drop (i + 1)).map (·.data.toList)) (i + 1) ((l ++ [(⟨c.1, c.2⟩ : S29)]).map (fun x => (x.f0, x.f1))) by
                  rw [HS.out, if_pos h8, List.map_append]
                  rfl)
                clear HS
                go_wp2_with (fail)
                refine (must_ok 11 _).mono ?_
                rintro e w8 ⟨rfl, hw8⟩
                rw [← hw8] at HQ8 HK8 HR8 HV8 HB8 HG8
                clear hw8 hb8 hb7
                obtain ⟨j0, j1, _, _⟩ := two_cell HG8.out
                have hbs : w0.heap.size ≤ B := by omega
                go_wp2_with (go_loud (at_builtin; refine Kd.R_append k29 (w0 := w0) w0.heap.size rfl (.tmp 36) (.tmp 38) 30 29 (.agg #[(.string ⟨#[]⟩), (.int .i64 0)]) 24 rfl Tryz.underlying30 info29 rfl (by decide) (by omega) _ l (⟨c.1, c.2⟩ : S29) [.string c.1, .int .i64 c.2] (fun k => B ≤ k) (fun _ => False) rfl rfl (k29_mkM _ _ _ _) (fun _ hk => hk.elim) (fun k hk => Nat.le_trans HB8.out hk) HR8.out HQ8.out.b HQ8.out.b.size (by rw [hli]; omega) ?_; intro v1 wd ho hbd hgd hat))
                go_roundw
                case rel =>
                  have hgw8 : g < w8.heap.size := HQ8.out.a.lt
                  have hKd : KB g w wd := ⟨hbd.os.trans H0.out.b.os.symm, hbd.tape.trans H0.out.b.tape.symm, hbd.output.trans H0.out.b.output.symm, Nat.le_trans HK8.out.size hgd.size, fun k hk hkg => (hgd.block k (Nat.lt_of_lt_of_le hk HK8.out.size) (fun e => by have := HR8.out.1 _ e.symm; omega)).trans (HK8.out.block k hk hkg)⟩
                  have hAd : AtG g ⟨#[]⟩ wd := (hgd.block g (HQ8.out.a.lt) (fun e => by have := HR8.out.1 _ e.symm; omega)).trans HQ8.out.a
                  exact ⟨i + 1, l ++ [(⟨c.1, c.2⟩ : S29)], by omega, by rw [List.length_append, hli]; rfl, by go_num, HZ, ⟨ho⟩, ⟨⟨HQ8.out.E, hbd, HQ8.out.hg, hAd⟩⟩, ⟨hKd⟩, ⟨Kd.V_grown HV8.out hgd (fun k hk e => by have := HR8.out.1 _ e.symm; have := hk.2; omega)⟩, ⟨Nat.le_trans HB8.out hgd.size⟩⟩
                case measure => simp [intOf]; omega
              · have h8' : ¬ (i : Int) < 8 := by omega
                have HZ := Aside0.mk (show Pure.viaN (Pure.nb s.data.toList) = .bad 11 by rw [HS.out, if_neg h8])
                clear HS
                go_wp2_with (fail)
                rw [show decide ((i : Int) < 8) = false by simpa using h8']
                refine (must_bad 11 _).mono ?_
                rintro e w8 ⟨rfl, rfl⟩
                go_wp2
                refine ⟨rfl, HK8.out, ?_⟩
                rw [HZ.out]
          · obtain rfl : i = ws.length := by omega
            have HZ := Aside0.mk (show Pure.viaN (Pure.nb s.data.toList) = .got (l.map (fun x => (x.f0, x.f1))) [] by rw [HX.out, List.drop_length]; rfl)
            go_wp2
            go_ret
            refine ⟨HKr.out, ?_⟩
            rw [HZ.out]
            exact ⟨_, ⟨#[]⟩, rfl, ⟨l, rfl, Kd.R_mono HR1.out (fun k hk => by have : B ≤ k := hk; omega)⟩, HQr.out.a, rfl, Nat.zero_le _⟩
end Go.Proofs.YtgaboenipiojoaaGreatDoor.QAll
end

section
/- cmd's reader: read. -/
set_option linter.unusedVariables false
set_option linter.unusedSimpArgs false
namespace Go.Proofs.YtgaboenipiojoaaGreatDoor.QAll
open Go.RowKit Go.Proofs.YtgaboenipiojoaaGreatDoorW.PrintWords Go.Proofs.YtgaboenipiojoaaGreatDoorW.PrintLast Go.Proofs.YtgaboenipiojoaaGreatDoorW.PrintMore
def cmdC (k n : Int) (b : ByteArray) (ssid : Int) (via : Value) (tx : ByteArray) : Array Value := #[.int .i64 k, .int .i64 n, .string b, .int .i64 ssid, via, .string tx]
/-- A command in memory. -/
def cmdP (w0 w : World) (a : Pure.CmdM) (v : Value) (w' : World) : Prop :=
  ∃ (l : List S29) (tx : ByteArray) (via : Value), v = .agg (cmdC a.k a.n a.dst.1 a.dst.2 via tx) ∧ tx.data.toList = a.text ∧ a.via = l.map (fun x => (x.f0, x.f1)) ∧ Kd.R k29 29 w' w0.heap.size (fun k => w.heap.size ≤ k) via l
theorem cells6 {w : World} {g : Nat} {a b c d e f : Value} {t : TypeId} (h : w.heap[g]? = some (.cells #[a, b, c, d, e, f] t (0, 0))) :
    (w.cell? ⟨g, 0, none⟩ = some a ∧ w.cell? ⟨g, 1, none⟩ = some b ∧ w.cell? ⟨g, 2, none⟩ = some c ∧ w.cell? ⟨g, 3, none⟩ = some d ∧ w.cell? ⟨g, 4, none⟩ = some e ∧ w.cell? ⟨g, 5, none⟩ = some f) ∧
    (w.frozen? ⟨g, 0, none⟩ = false ∧ w.frozen? ⟨g, 1, none⟩ = false ∧ w.frozen? ⟨g, 2, none⟩ = false ∧ w.frozen? ⟨g, 3, none⟩ = false ∧ w.frozen? ⟨g, 4, none⟩ = false ∧ w.frozen? ⟨g, 5, none⟩ = false) := by
  simp [World.cell?, World.frozen?, h]
theorem six_set {w : World} {g : Nat} {a b c d e f a' b' c' d' e' f' : Value} {t : TypeId} (h : w.heap[g]? = some (.cells #[a, b, c, d, e, f] t (0, 0))) :
    ((((((w.setCell ⟨g, 0, none⟩ a').setCell ⟨g, 1, none⟩ b').setCell ⟨g, 2, none⟩ c').setCell ⟨g, 3, none⟩ d').setCell ⟨g, 4, none⟩ e').setCell ⟨g, 5, none⟩ f').heap[g]? = some (.cells #[a', b', c', d', e', f'] t (0, 0)) := by
  simp [World.setCell, Array.getElem?_modify, h]
theorem six_below (w : World) (g : Nat) (a' b' c' d' e' f' : Value) :
    Below g w ((((((w.setCell ⟨g, 0, none⟩ a').setCell ⟨g, 1, none⟩ b').setCell ⟨g, 2, none⟩ c').setCell ⟨g, 3, none⟩ d').setCell ⟨g, 4, none⟩ e').setCell ⟨g, 5, none⟩ f') :=
  ((((((Below.refl g w).setCell (p := ⟨g, 0, none⟩) (Nat.le_refl _) a').setCell (p := ⟨g, 1, none⟩) (Nat.le_refl _) b').setCell (p := ⟨g, 2, none⟩) (Nat.le_refl _) c').setCell (p := ⟨g, 3, none⟩) (Nat.le_refl _) d').setCell (p := ⟨g, 4, none⟩) (Nat.le_refl _) e').setCell (p := ⟨g, 5, none⟩) (Nat.le_refl _) f'
theorem six_far (w : World) (g : Nat) (a' b' c' d' e' f' : Value) (k : Nat) (hk : k ≠ g) :
    ((((((w.setCell ⟨g, 0, none⟩ a').setCell ⟨g, 1, none⟩ b').setCell ⟨g, 2, none⟩ c').setCell ⟨g, 3, none⟩ d').setCell ⟨g, 4, none⟩ e').setCell ⟨g, 5, none⟩ f').heap[k]? = w.heap[k]? := by
  rw [Below.heap_setCell _ _ _ _ (show k ≠ g from hk), Below.heap_setCell _ _ _ _ (show k ≠ g from hk), Below.heap_setCell _ _ _ _ (show k ≠ g from hk), Below.heap_setCell _ _ _ _ (show k ≠ g from hk), Below.heap_setCell _ _ _ _ (show k ≠ g from hk), Below.heap_setCell _ _ _ _ (show k ≠ g from hk)]
theorem bnd_at {k lo hi lo0 hi0 : Int} {bb : Bool} (h0 : Pure.bndN k = some (lo0, hi0)) (h : (Pure.bndN k = some (lo, hi) ∧ bb = true) ∨ (Pure.bndN k = none ∧ bb = false)) : lo = lo0 ∧ hi = hi0 ∧ bb = true := by
  rw [h0] at h
  rcases h with ⟨h, hb⟩ | ⟨h, _⟩
  · injection h with z
    injection z with z1 z2
    exact ⟨z1.symm, z2.symm, hb⟩
  · cases h
def zCmd : Array Value := #[.int .i64 0, .int .i64 0, .string ⟨#[]⟩, .int .i64 0, .slice none 0 0, .string ⟨#[]⟩]
set_option maxHeartbeats 4000000 in
set_option maxRecDepth 100000 in
theorem read_calls (w0 : World) (g : Nat) (s : ByteArray) (hs : s.size ≤ 1000000) (w : World) (h0 : At0 w0 g s w) :
    Calls Tryz.prog 34 #[.pointer (some ⟨g, 0, none⟩)] w (RdP g s.size (cmdP w0 w) (Pure.readN (Pure.nb s.data.toList)) w) := by
  have H0 := Aside0.mk h0
  clear h0
  have hu32 := Tryz.underlying32
  have hb0 := (Below.refl w.heap.size w).alloc (Nat.le_refl _) (.cells zCmd 32)
  have H1 := Aside0.mk (H0.out.below hb0)
  have HK1 := Aside0.mk (KB.of_below (g := g) hb0)
  have hgl := H0.out.a.lt
  clear hb0
  have HM := Aside0.mk (more_calls g s hs _ H1.out.a)
  by_cases hm : Pure.nb s.data.toList = []
  · have HX := Aside0.mk (show Pure.readN (Pure.nb s.data.toList) = .bad 7 by unfold Pure.readN; rw [if_pos hm])
    rw [show moreB s = false by unfold moreB; rw [hm]; rfl] at HM
    clear hm
    go_enter Tryz.func34, Tryz.ntmps34
    go_wp2_with (fail)
    refine HM.out.mono ?_
    rintro e w1 ⟨rfl, q, rfl⟩
    go_wp2_with (fail)
    refine (must_bad 7 _).mono ?_
    rintro e w1 ⟨rfl, rfl⟩
    go_wp2
    refine ⟨rfl, HK1.out.drewN q, ?_⟩
    rw [HX.out]
  · have HXX := Aside0.mk (show Pure.readN (Pure.nb s.data.toList) = (Pure.bodyN (Pure.kindN (Pure.wd (Pure.nb s.data.toList))) (Pure.rs (Pure.nb s.data.toList))).bind fun c q => if q = [] then .got c q else .bad 5 by
      unfold Pure.readN Pure.wordN
      rw [if_neg hm, if_neg hm]
      rfl)
    have HWE := Aside0.mk (show Pure.wordN (Pure.nb s.data.toList) = .got (Pure.wd (Pure.nb s.data.toList)) (Pure.rs (Pure.nb s.data.toList)) by unfold Pure.wordN; rw [if_neg hm])
    rw [show moreB s = true by unfold moreB; simpa using hm] at HM
    clear hm
    go_enter Tryz.func34, Tryz.ntmps34
    go_wp2_with (fail)
    refine HM.out.mono ?_
    rintro e w1 ⟨rfl, q, hw1⟩
    have H2 := Aside0.mk (show At0 w0 g s w1 by rw [hw1]; exact H1.out.below (pw_below_drewN (Below.refl _ _) q))
    have HK2 := Aside0.mk (show KB g w w1 by rw [hw1]; exact HK1.out.drewN q)
    have HC2 := Aside0.mk (show w1.heap[w.heap.size]? = some (.cells zCmd 32 (0, 0)) by rw [hw1]; exact heap_alloc_new w _)
    clear hw1 HK1
    go_wp2_with (fail)
    refine (must_ok 7 _).mono ?_
    rintro e w1' ⟨rfl, rfl⟩
    have HW := Aside0.mk (word_calls g s hs _ H2.out.a)
    rw [HWE.out] at HW
    clear HWE HM
    generalize Pure.wd (Pure.nb s.data.toList) = a at HXX HW
    generalize Pure.rs (Pure.nb s.data.toList) = r at HXX HW
    go_wp2_with (fail)
    refine HW.out.mono ?_
    rintro e w2 ⟨hk, v, s', rfl, ⟨t, rfl, ht, hts⟩, ha, hr, hs'⟩
    have H3 := Aside0.mk (H2.out.kb hk ha)
    have HK3 := Aside0.mk (HK2.out.trans hk)
    have HC3 := Aside0.mk (show w2.heap[w.heap.size]? = some (.cells zCmd 32 (0, 0)) by rw [hk.block _ (blk_lt HC2.out) (by omega)]; exact HC2.out)
    have HF := Aside0.mk (And.intro hr hs')
    have HKI := Aside0.mk (kindOf_calls t (by omega) w2 H3.out.env)
    rw [ht] at HKI
    clear hk ha hr hs' ht hts HC2 HK2 H2 HW
    go_wp2_with (fail)
    refine HKI.out.mono ?_
    rintro e w3 ⟨rfl, hb3⟩
    have H4 := Aside0.mk (H3.out.below hb3)
    have HK4 := Aside0.mk (HK3.out.trans (KB.of_below hb3))
    have HC4 := Aside0.mk ((hb3.block _ (blk_lt HC3.out)).trans HC3.out)
    clear hb3 HC3 HK3 H3 HKI
    generalize Pure.kindN a = k at HXX ⊢
    obtain ⟨⟨c0, c1, c2, c3, c4, c5⟩, f0, f1, f2, f3, f4, f5⟩ := cells6 HC4.out
    go_wp2_with (fail)
    obtain ⟨lo, hi, bb, hbn, hbo⟩ : ∃ lo hi bb, ((Pure.bndN k = some (lo, hi) ∧ bb = true) ∨ (Pure.bndN k = none ∧ bb = false)) ∧ ∀ W, Calls Tryz.prog 61 #[.int .i64 k] W fun e w' => e = .returned (.tuple #[.int .i64 lo, .int .i64 hi, .bool bb]) ∧ w' = W := by
      cases hb : Pure.bndN k with
      | none => exact ⟨0, 0, false, Or.inr ⟨rfl, rfl⟩, fun W => bounds_none k hb W⟩
      | some p => exact ⟨p.1, p.2, true, Or.inl ⟨rfl, rfl⟩, fun W => bounds_some k p.1 p.2 hb W⟩
    refine (hbo _).mono ?_
    rintro e w4 ⟨rfl, hw4⟩
    have HB5 := (Below.refl w.heap.size w3).setCell (p := ⟨w.heap.size, 0, none⟩) (Nat.le_refl _) (.int .i64 k)
    have HK5 := Aside0.mk (show KB g w w4 by
      rw [hw4]
      exact ⟨HB5.os.trans HK4.out.os, HB5.tape.trans HK4.out.tape, HB5.output.trans HK4.out.output, Nat.le_trans HK4.out.size HB5.size, fun k hk hg => (HB5.block k hk).trans (HK4.out.block k hk hg)⟩)
    have H5 := Aside0.mk (show At0 w0 g s' w4 from H0.out.kb HK5.out (by rw [hw4]; exact (HB5.block g hgl).trans H4.out.a))
    have HC5 := Aside0.mk (show w4.heap[w.heap.size]? = some (.cells #[.int .i64 k, .int .i64 0, .string ⟨#[]⟩, .int .i64 0, .slice none 0 0, .string ⟨#[]⟩] 32 (0, 0)) by
      rw [hw4]
      have z := HC4.out
      unfold zCmd at z
      simp [World.setCell, Array.getElem?_modify, z])
    clear hw4 HB5 H4 HK4 HC4 c0 c1 c2 c3 c4 c5 f0 f1 f2 f3 f4 f5 hbo
    obtain ⟨⟨c0, c1, c2, c3, c4, c5⟩, f0, f1, f2, f3, f4, f5⟩ := cells6 HC5.out
    go_upto_block 0 with (fail)
    go_cut [] from 20 to 78 (fun wx => ∃ c q s5, Aside0 (Pure.bodyN k r = .got c q) ∧ Aside0 (At0 w0 g s5 wx) ∧ Aside0 (KB g w wx) ∧ Aside0 (Pure.nb s5.data.toList = q ∧ s5.size ≤ s.size) ∧ Aside0 (∃ (l : List S29) (tx : ByteArray) (via : Value), wx.heap[w.heap.size]? = some (.cells (cmdC c.k c.n c.dst.1 c.dst.2 via tx) 32 (0, 0)) ∧ tx.data.toList = c.text ∧ c.via = l.map (fun x => (x.f0, x.f1)) ∧ Kd.R k29 29 wx w0.heap.size (fun k => w.heap.size < k) via l))
    case first =>
      by_cases k0 : k = 0
      · have HX := Aside0.mk (show Pure.readN (Pure.nb s.data.toList) = .bad 2 by rw [HXX.out, k0]; rfl)
        subst k0
        go_wp2
        refine ⟨rfl, HK5.out, ?_⟩
        rw [HX.out]
      · by_cases k13 : k = 13
        · obtain rfl := k13
          have HT := Aside0.mk (text_calls g s' (by have := HF.out.2; omega) _ H5.out.a)
          rw [HF.out.1] at HT
          go_wp2_with (fail)
          refine HT.out.mono ?_
          rintro e w5 ⟨hk5, he⟩
          have HK6 := Aside0.mk (HK5.out.trans hk5)
          have hc5 := (hk5.block _ (blk_lt HC5.out) (by omega)).trans HC5.out
          cases hv : Pure.textN r with
          | bad j =>
            rw [hv] at he
            obtain rfl : e = wrongE j := he
            have HX := Aside0.mk (show Pure.readN (Pure.nb s.data.toList) = .bad j by rw [HXX.out]; show (Pure.Rd.bind (Pure.Rd.bind (Pure.textN r) _) _) = _; rw [hv]; rfl)
            clear hv hk5 hc5
            go_wp2
            refine ⟨rfl, HK6.out, ?_⟩
            rw [HX.out]
          | got x q =>
            rw [hv] at he
            obtain ⟨v, s5, rfl, ⟨y, rfl, hy, _⟩, ha5, hr5, hs5⟩ := he
            have HBo := Aside0.mk (show Pure.bodyN 13 r = .got { Pure.cmd0 13 with text := x } q by show (Pure.Rd.bind (Pure.textN r) _) = _; rw [hv]; rfl)
            have H6 := Aside0.mk (H5.out.kb hk5 ha5)
            have HC6 := Aside0.mk hc5
            have HQ := Aside0.mk (And.intro hr5 (show s5.size ≤ s.size by have := HF.out.2; omega))
            have HY := Aside0.mk hy
            clear hv hk5 hc5 hr5 hs5 ha5 hy c0 c1 c2 c3 c4 c5 f0 f1 f2 f3 f4 f5
            obtain ⟨⟨c0, c1, c2, c3, c4, c5⟩, f0, f1, f2, f3, f4, f5⟩ := cells6 HC6.out
            go_wp2_with (fail)
            go_meet
            have hb := (Below.refl w.heap.size w5).setCell (p := ⟨w.heap.size, 5, none⟩) (Nat.le_refl _) (.string y)
            have hKK : KB g w (w5.setCell ⟨w.heap.size, 5, none⟩ (.string y)) := ⟨hb.os.trans HK6.out.os, hb.tape.trans HK6.out.tape, hb.output.trans HK6.out.output, Nat.le_trans HK6.out.size hb.size, fun k hk hg => (hb.block k hk).trans (HK6.out.block k hk hg)⟩
            have hz := HC6.out
            exact ⟨_, _, s5, HBo, ⟨H0.out.kb hKK ((hb.block g hgl).trans H6.out.a)⟩, ⟨hKK⟩, HQ, ⟨[], y, .slice none 0 0, by simp [World.setCell, Array.getElem?_modify, hz, cmdC, Pure.cmd0], HY.out, rfl, Kd.R_nil _ _ _ _ _⟩⟩
        · by_cases k15 : k = 15
          · obtain rfl := k15
            have HT := Aside0.mk (onOff_calls w0 g s' (by have := HF.out.2; omega) _ H5.out)
            rw [HF.out.1] at HT
            go_wp2_with (fail)
            refine HT.out.mono ?_
            rintro e w5 ⟨hk5, he⟩
            have HK6 := Aside0.mk (HK5.out.trans hk5)
            have hc5 := (hk5.block _ (blk_lt HC5.out) (by omega)).trans HC5.out
            cases hv : Pure.onN r with
            | bad j =>
              rw [hv] at he
              obtain rfl : e = wrongE j := he
              have HX := Aside0.mk (show Pure.readN (Pure.nb s.data.toList) = .bad j by rw [HXX.out]; show (Pure.Rd.bind (Pure.Rd.bind (Pure.onN r) _) _) = _; rw [hv]; rfl)
              clear hv hk5 hc5
              go_wp2
              refine ⟨rfl, HK6.out, ?_⟩
              rw [HX.out]
            | got x q =>
              rw [hv] at he
              obtain ⟨v, s5, rfl, rfl, ha5, hr5, hs5⟩ := he
              have HBo := Aside0.mk (show Pure.bodyN 15 r = .got { Pure.cmd0 15 with n := x } q by show (Pure.Rd.bind (Pure.onN r) _) = _; rw [hv]; rfl)
              have H6 := Aside0.mk (H5.out.kb hk5 ha5)
              have HC6 := Aside0.mk hc5
              have HQ := Aside0.mk (And.intro hr5 (show s5.size ≤ s.size by have := HF.out.2; omega))
              clear hv hk5 hc5 hr5 hs5 ha5 c0 c1 c2 c3 c4 c5 f0 f1 f2 f3 f4 f5
              unfold encI
              obtain ⟨⟨c0, c1, c2, c3, c4, c5⟩, f0, f1, f2, f3, f4, f5⟩ := cells6 HC6.out
              go_wp2_with (fail)
              go_meet
              have hb := ((Below.refl w.heap.size w5).setCell (p := ⟨w.heap.size, 1, none⟩) (Nat.le_refl _) (.int .i64 x))
              have hKK : KB g w (w5.setCell ⟨w.heap.size, 1, none⟩ (.int .i64 x)) := ⟨hb.os.trans HK6.out.os, hb.tape.trans HK6.out.tape, hb.output.trans HK6.out.output, Nat.le_trans HK6.out.size hb.size, fun k hk hg => (hb.block k hk).trans (HK6.out.block k hk hg)⟩
              have hz := HC6.out
              exact ⟨_, _, s5, HBo, ⟨H0.out.kb hKK ((hb.block g hgl).trans H6.out.a)⟩, ⟨hKK⟩, HQ, ⟨[], ⟨#[]⟩, .slice none 0 0, by simp [World.setCell, Array.getElem?_modify, hz, cmdC, Pure.cmd0], rfl, rfl, Kd.R_nil _ _ _ _ _⟩⟩
          · by_cases k17 : k = 17
            · obtain rfl := k17
              have HT := Aside0.mk (onOff_calls w0 g s' (by have := HF.out.2; omega) _ H5.out)
              rw [HF.out.1] at HT
              go_wp2_with (fail)
              refine HT.out.mono ?_
              rintro e w5 ⟨hk5, he⟩
              have HK6 := Aside0.mk (HK5.out.trans hk5)
              have hc5 := (hk5.block _ (blk_lt HC5.out) (by omega)).trans HC5.out
              cases hv : Pure.onN r with
              | bad j =>
                rw [hv] at he
                obtain rfl : e = wrongE j := he
                have HX := Aside0.mk (show Pure.readN (Pure.nb s.data.toList) = .bad j by rw [HXX.out]; show (Pure.Rd.bind (Pure.Rd.bind (Pure.onN r) _) _) = _; rw [hv]; rfl)
                clear hv hk5 hc5
                go_wp2
                refine ⟨rfl, HK6.out, ?_⟩
                rw [HX.out]
              | got x q =>
                rw [hv] at he
                obtain ⟨v, s5, rfl, rfl, ha5, hr5, hs5⟩ := he
                have HBo := Aside0.mk (show Pure.bodyN 17 r = .got { Pure.cmd0 17 with n := x } q by show (Pure.Rd.bind (Pure.onN r) _) = _; rw [hv]; rfl)
                have H6 := Aside0.mk (H5.out.kb hk5 ha5)
                have HC6 := Aside0.mk hc5
                have HQ := Aside0.mk (And.intro hr5 (show s5.size ≤ s.size by have := HF.out.2; omega))
                clear hv hk5 hc5 hr5 hs5 ha5 c0 c1 c2 c3 c4 c5 f0 f1 f2 f3 f4 f5
                unfold encI
                obtain ⟨⟨c0, c1, c2, c3, c4, c5⟩, f0, f1, f2, f3, f4, f5⟩ := cells6 HC6.out
                go_wp2_with (fail)
                go_meet
                have hb := ((Below.refl w.heap.size w5).setCell (p := ⟨w.heap.size, 1, none⟩) (Nat.le_refl _) (.int .i64 x))
                have hKK : KB g w (w5.setCell ⟨w.heap.size, 1, none⟩ (.int .i64 x)) := ⟨hb.os.trans HK6.out.os, hb.tape.trans HK6.out.tape, hb.output.trans HK6.out.output, Nat.le_trans HK6.out.size hb.size, fun k hk hg => (hb.block k hk).trans (HK6.out.block k hk hg)⟩
                have hz := HC6.out
                exact ⟨_, _, s5, HBo, ⟨H0.out.kb hKK ((hb.block g hgl).trans H6.out.a)⟩, ⟨hKK⟩, HQ, ⟨[], ⟨#[]⟩, .slice none 0 0, by simp [World.setCell, Array.getElem?_modify, hz, cmdC, Pure.cmd0], rfl, rfl, Kd.R_nil _ _ _ _ _⟩⟩
            · by_cases k6 : k = 6
              · obtain rfl := k6
                have HT := Aside0.mk (beacon_calls w0 g s' (by have := HF.out.2; omega) _ H5.out)
                rw [HF.out.1] at HT
                go_wp2_with (fail)
                refine HT.out.mono ?_
                rintro e w5 ⟨hk5, he⟩
                have HK6 := Aside0.mk (HK5.out.trans hk5)
                have hc5 := (hk5.block _ (blk_lt HC5.out) (by omega)).trans HC5.out
                cases hv : Pure.beaN r with
                | bad j =>
                  rw [hv] at he
                  obtain rfl : e = wrongE j := he
                  have HX := Aside0.mk (show Pure.readN (Pure.nb s.data.toList) = .bad j by rw [HXX.out]; show (Pure.Rd.bind (Pure.Rd.bind (Pure.beaN r) _) _) = _; rw [hv]; rfl)
                  clear hv hk5 hc5
                  go_wp2
                  refine ⟨rfl, HK6.out, ?_⟩
                  rw [HX.out]
                | got x q =>
                  rw [hv] at he
                  obtain ⟨v, s5, rfl, ⟨y, rfl, hy⟩, ha5, hr5, hs5⟩ := he
                  have HBo := Aside0.mk (show Pure.bodyN 6 r = .got { Pure.cmd0 6 with n := x.1, text := x.2 } q by show (Pure.Rd.bind (Pure.beaN r) _) = _; rw [hv]; rfl)
                  have H6 := Aside0.mk (H5.out.kb hk5 ha5)
                  have HC6 := Aside0.mk hc5
                  have HQ := Aside0.mk (And.intro hr5 (show s5.size ≤ s.size by have := HF.out.2; omega))
                  have HY := Aside0.mk hy
                  clear hv hk5 hc5 hr5 hs5 ha5 hy c0 c1 c2 c3 c4 c5 f0 f1 f2 f3 f4 f5
                  obtain ⟨⟨c0, c1, c2, c3, c4, c5⟩, f0, f1, f2, f3, f4, f5⟩ := cells6 HC6.out
                  go_wp2_with (fail)
                  go_meet
                  have hb := (((Below.refl w.heap.size w5).setCell (p := ⟨w.heap.size, 1, none⟩) (Nat.le_refl _) (.int .i64 x.1)).setCell (p := ⟨w.heap.size, 5, none⟩) (Nat.le_refl _) (.string y))
                  have hKK : KB g w ((w5.setCell ⟨w.heap.size, 1, none⟩ (.int .i64 x.1)).setCell ⟨w.heap.size, 5, none⟩ (.string y)) := ⟨hb.os.trans HK6.out.os, hb.tape.trans HK6.out.tape, hb.output.trans HK6.out.output, Nat.le_trans HK6.out.size hb.size, fun k hk hg => (hb.block k hk).trans (HK6.out.block k hk hg)⟩
                  have hz := HC6.out
                  exact ⟨_, _, s5, HBo, ⟨H0.out.kb hKK ((hb.block g hgl).trans H6.out.a)⟩, ⟨hKK⟩, HQ, ⟨[], y, .slice none 0 0, by simp [World.setCell, Array.getElem?_modify, hz, cmdC, Pure.cmd0], HY.out, rfl, Kd.R_nil _ _ _ _ _⟩⟩
              · by_cases k9 : k = 9
                · obtain rfl := k9
                  obtain ⟨rfl, rfl, rfl⟩ := bnd_at (lo0 := 16) (hi0 := 256) rfl hbn
                  have HT := Aside0.mk (number_calls w0 g s' 16 256 (by have := HF.out.2; omega) _ H5.out)
                  rw [HF.out.1] at HT
                  go_wp2_with (fail)
                  refine HT.out.mono ?_
                  rintro e w5 ⟨hk5, he⟩
                  have HK6 := Aside0.mk (HK5.out.trans hk5)
                  have hc5 := (hk5.block _ (blk_lt HC5.out) (by omega)).trans HC5.out
                  cases hv : Pure.numN 16 256 r with
                  | bad j =>
                    rw [hv] at he
                    obtain rfl : e = wrongE j := he
                    have HX := Aside0.mk (show Pure.readN (Pure.nb s.data.toList) = .bad j by rw [HXX.out]; show (Pure.Rd.bind (Pure.Rd.bind (Pure.numN 16 256 r) _) _) = _; rw [hv]; rfl)
                    clear hv hk5 hc5
                    go_wp2
                    refine ⟨rfl, HK6.out, ?_⟩
                    rw [HX.out]
                  | got x q =>
                    rw [hv] at he
                    obtain ⟨v, s5, rfl, rfl, ha5, hr5, hs5⟩ := he
                    have HBo := Aside0.mk (show Pure.bodyN 9 r = .got { Pure.cmd0 9 with n := x } q by show (Pure.Rd.bind (Pure.numN 16 256 r) _) = _; rw [hv]; rfl)
                    have H6 := Aside0.mk (H5.out.kb hk5 ha5)
                    have HC6 := Aside0.mk hc5
                    have HQ := Aside0.mk (And.intro hr5 (show s5.size ≤ s.size by have := HF.out.2; omega))
                    clear hv hk5 hc5 hr5 hs5 ha5 c0 c1 c2 c3 c4 c5 f0 f1 f2 f3 f4 f5
                    unfold encI
                    obtain ⟨⟨c0, c1, c2, c3, c4, c5⟩, f0, f1, f2, f3, f4, f5⟩ := cells6 HC6.out
                    go_wp2_with (fail)
                    go_meet
                    have hb := ((Below.refl w.heap.size w5).setCell (p := ⟨w.heap.size, 1, none⟩) (Nat.le_refl _) (.int .i64 x))
                    have hKK : KB g w (w5.setCell ⟨w.heap.size, 1, none⟩ (.int .i64 x)) := ⟨hb.os.trans HK6.out.os, hb.tape.trans HK6.out.tape, hb.output.trans HK6.out.output, Nat.le_trans HK6.out.size hb.size, fun k hk hg => (hb.block k hk).trans (HK6.out.block k hk hg)⟩
                    have hz := HC6.out
                    exact ⟨_, _, s5, HBo, ⟨H0.out.kb hKK ((hb.block g hgl).trans H6.out.a)⟩, ⟨hKK⟩, HQ, ⟨[], ⟨#[]⟩, .slice none 0 0, by simp [World.setCell, Array.getElem?_modify, hz, cmdC, Pure.cmd0], rfl, rfl, Kd.R_nil _ _ _ _ _⟩⟩
                · by_cases k10 : k = 10
                  · obtain rfl := k10
                    obtain ⟨rfl, rfl, rfl⟩ := bnd_at (lo0 := 1) (hi0 := 63) rfl hbn
                    have HT := Aside0.mk (number_calls w0 g s' 1 63 (by have := HF.out.2; omega) _ H5.out)
                    rw [HF.out.1] at HT
                    go_wp2_with (fail)
                    refine HT.out.mono ?_
                    rintro e w5 ⟨hk5, he⟩
                    have HK6 := Aside0.mk (HK5.out.trans hk5)
                    have hc5 := (hk5.block _ (blk_lt HC5.out) (by omega)).trans HC5.out
                    cases hv : Pure.numN 1 63 r with
                    | bad j =>
                      rw [hv] at he
                      obtain rfl : e = wrongE j := he
                      have HX := Aside0.mk (show Pure.readN (Pure.nb s.data.toList) = .bad j by rw [HXX.out]; show (Pure.Rd.bind (Pure.Rd.bind (Pure.numN 1 63 r) _) _) = _; rw [hv]; rfl)
                      clear hv hk5 hc5
                      go_wp2
                      refine ⟨rfl, HK6.out, ?_⟩
                      rw [HX.out]
                    | got x q =>
                      rw [hv] at he
                      obtain ⟨v, s5, rfl, rfl, ha5, hr5, hs5⟩ := he
                      have HBo := Aside0.mk (show Pure.bodyN 10 r = .got { Pure.cmd0 10 with n := x } q by show (Pure.Rd.bind (Pure.numN 1 63 r) _) = _; rw [hv]; rfl)
                      have H6 := Aside0.mk (H5.out.kb hk5 ha5)
                      have HC6 := Aside0.mk hc5
                      have HQ := Aside0.mk (And.intro hr5 (show s5.size ≤ s.size by have := HF.out.2; omega))
                      clear hv hk5 hc5 hr5 hs5 ha5 c0 c1 c2 c3 c4 c5 f0 f1 f2 f3 f4 f5
                      unfold encI
                      obtain ⟨⟨c0, c1, c2, c3, c4, c5⟩, f0, f1, f2, f3, f4, f5⟩ := cells6 HC6.out
                      go_wp2_with (fail)
                      go_meet
                      have hb := ((Below.refl w.heap.size w5).setCell (p := ⟨w.heap.size, 1, none⟩) (Nat.le_refl _) (.int .i64 x))
                      have hKK : KB g w (w5.setCell ⟨w.heap.size, 1, none⟩ (.int .i64 x)) := ⟨hb.os.trans HK6.out.os, hb.tape.trans HK6.out.tape, hb.output.trans HK6.out.output, Nat.le_trans HK6.out.size hb.size, fun k hk hg => (hb.block k hk).trans (HK6.out.block k hk hg)⟩
                      have hz := HC6.out
                      exact ⟨_, _, s5, HBo, ⟨H0.out.kb hKK ((hb.block g hgl).trans H6.out.a)⟩, ⟨hKK⟩, HQ, ⟨[], ⟨#[]⟩, .slice none 0 0, by simp [World.setCell, Array.getElem?_modify, hz, cmdC, Pure.cmd0], rfl, rfl, Kd.R_nil _ _ _ _ _⟩⟩
                  · by_cases k11 : k = 11
                    · obtain rfl := k11
                      obtain ⟨rfl, rfl, rfl⟩ := bnd_at (lo0 := 4) (hi0 := 255) rfl hbn
                      have HT := Aside0.mk (number_calls w0 g s' 4 255 (by have := HF.out.2; omega) _ H5.out)
                      rw [HF.out.1] at HT
                      go_wp2_with (fail)
                      refine HT.out.mono ?_
                      rintro e w5 ⟨hk5, he⟩
                      have HK6 := Aside0.mk (HK5.out.trans hk5)
                      have hc5 := (hk5.block _ (blk_lt HC5.out) (by omega)).trans HC5.out
                      cases hv : Pure.numN 4 255 r with
                      | bad j =>
                        rw [hv] at he
                        obtain rfl : e = wrongE j := he
                        have HX := Aside0.mk (show Pure.readN (Pure.nb s.data.toList) = .bad j by rw [HXX.out]; show (Pure.Rd.bind (Pure.Rd.bind (Pure.numN 4 255 r) _) _) = _; rw [hv]; rfl)
                        clear hv hk5 hc5
                        go_wp2
                        refine ⟨rfl, HK6.out, ?_⟩
                        rw [HX.out]
                      | got x q =>
                        rw [hv] at he
                        obtain ⟨v, s5, rfl, rfl, ha5, hr5, hs5⟩ := he
                        have HBo := Aside0.mk (show Pure.bodyN 11 r = .got { Pure.cmd0 11 with n := x } q by show (Pure.Rd.bind (Pure.numN 4 255 r) _) = _; rw [hv]; rfl)
                        have H6 := Aside0.mk (H5.out.kb hk5 ha5)
                        have HC6 := Aside0.mk hc5
                        have HQ := Aside0.mk (And.intro hr5 (show s5.size ≤ s.size by have := HF.out.2; omega))
                        clear hv hk5 hc5 hr5 hs5 ha5 c0 c1 c2 c3 c4 c5 f0 f1 f2 f3 f4 f5
                        unfold encI
                        obtain ⟨⟨c0, c1, c2, c3, c4, c5⟩, f0, f1, f2, f3, f4, f5⟩ := cells6 HC6.out
                        go_wp2_with (fail)
                        go_meet
                        have hb := ((Below.refl w.heap.size w5).setCell (p := ⟨w.heap.size, 1, none⟩) (Nat.le_refl _) (.int .i64 x))
                        have hKK : KB g w (w5.setCell ⟨w.heap.size, 1, none⟩ (.int .i64 x)) := ⟨hb.os.trans HK6.out.os, hb.tape.trans HK6.out.tape, hb.output.trans HK6.out.output, Nat.le_trans HK6.out.size hb.size, fun k hk hg => (hb.block k hk).trans (HK6.out.block k hk hg)⟩
                        have hz := HC6.out
                        exact ⟨_, _, s5, HBo, ⟨H0.out.kb hKK ((hb.block g hgl).trans H6.out.a)⟩, ⟨hKK⟩, HQ, ⟨[], ⟨#[]⟩, .slice none 0 0, by simp [World.setCell, Array.getElem?_modify, hz, cmdC, Pure.cmd0], rfl, rfl, Kd.R_nil _ _ _ _ _⟩⟩
                    · by_cases k12 : k = 12
                      · obtain rfl := k12
                        obtain ⟨rfl, rfl, rfl⟩ := bnd_at (lo0 := 1) (hi0 := 15) rfl hbn
                        have HT := Aside0.mk (number_calls w0 g s' 1 15 (by have := HF.out.2; omega) _ H5.out)
                        rw [HF.out.1] at HT
                        go_wp2_with (fail)
                        refine HT.out.mono ?_
                        rintro e w5 ⟨hk5, he⟩
                        have HK6 := Aside0.mk (HK5.out.trans hk5)
                        have hc5 := (hk5.block _ (blk_lt HC5.out) (by omega)).trans HC5.out
                        cases hv : Pure.numN 1 15 r with
                        | bad j =>
                          rw [hv] at he
                          obtain rfl : e = wrongE j := he
                          have HX := Aside0.mk (show Pure.readN (Pure.nb s.data.toList) = .bad j by rw [HXX.out]; show (Pure.Rd.bind (Pure.Rd.bind (Pure.numN 1 15 r) _) _) = _; rw [hv]; rfl)
                          clear hv hk5 hc5
                          go_wp2
                          refine ⟨rfl, HK6.out, ?_⟩
                          rw [HX.out]
                        | got x q =>
                          rw [hv] at he
                          obtain ⟨v, s5, rfl, rfl, ha5, hr5, hs5⟩ := he
                          have HBo := Aside0.mk (show Pure.bodyN 12 r = .got { Pure.cmd0 12 with n := x } q by show (Pure.Rd.bind (Pure.numN 1 15 r) _) = _; rw [hv]; rfl)
                          have H6 := Aside0.mk (H5.out.kb hk5 ha5)
                          have HC6 := Aside0.mk hc5
                          have HQ := Aside0.mk (And.intro hr5 (show s5.size ≤ s.size by have := HF.out.2; omega))
                          clear hv hk5 hc5 hr5 hs5 ha5 c0 c1 c2 c3 c4 c5 f0 f1 f2 f3 f4 f5
                          unfold encI
                          obtain ⟨⟨c0, c1, c2, c3, c4, c5⟩, f0, f1, f2, f3, f4, f5⟩ := cells6 HC6.out
                          go_wp2_with (fail)
                          go_meet
                          have hb := ((Below.refl w.heap.size w5).setCell (p := ⟨w.heap.size, 1, none⟩) (Nat.le_refl _) (.int .i64 x))
                          have hKK : KB g w (w5.setCell ⟨w.heap.size, 1, none⟩ (.int .i64 x)) := ⟨hb.os.trans HK6.out.os, hb.tape.trans HK6.out.tape, hb.output.trans HK6.out.output, Nat.le_trans HK6.out.size hb.size, fun k hk hg => (hb.block k hk).trans (HK6.out.block k hk hg)⟩
                          have hz := HC6.out
                          exact ⟨_, _, s5, HBo, ⟨H0.out.kb hKK ((hb.block g hgl).trans H6.out.a)⟩, ⟨hKK⟩, HQ, ⟨[], ⟨#[]⟩, .slice none 0 0, by simp [World.setCell, Array.getElem?_modify, hz, cmdC, Pure.cmd0], rfl, rfl, Kd.R_nil _ _ _ _ _⟩⟩
                      · by_cases k16 : k = 16
                        · obtain rfl := k16
                          obtain ⟨rfl, rfl, rfl⟩ := bnd_at (lo0 := 1) (hi0 := 1000000) rfl hbn
                          have HT := Aside0.mk (number_calls w0 g s' 1 1000000 (by have := HF.out.2; omega) _ H5.out)
                          rw [HF.out.1] at HT
                          go_wp2_with (fail)
                          refine HT.out.mono ?_
                          rintro e w5 ⟨hk5, he⟩
                          have HK6 := Aside0.mk (HK5.out.trans hk5)
                          have hc5 := (hk5.block _ (blk_lt HC5.out) (by omega)).trans HC5.out
                          cases hv : Pure.numN 1 1000000 r with
                          | bad j =>
                            rw [hv] at he
                            obtain rfl : e = wrongE j := he
                            have HX := Aside0.mk (show Pure.readN (Pure.nb s.data.toList) = .bad j by rw [HXX.out]; show (Pure.Rd.bind (Pure.Rd.bind (Pure.numN 1 1000000 r) _) _) = _; rw [hv]; rfl)
                            clear hv hk5 hc5
                            go_wp2
                            refine ⟨rfl, HK6.out, ?_⟩
                            rw [HX.out]
                          | got x q =>
                            rw [hv] at he
                            obtain ⟨v, s5, rfl, rfl, ha5, hr5, hs5⟩ := he
                            have HBo := Aside0.mk (show Pure.bodyN 16 r = .got { Pure.cmd0 16 with n := x } q by show (Pure.Rd.bind (Pure.numN 1 1000000 r) _) = _; rw [hv]; rfl)
                            have H6 := Aside0.mk (H5.out.kb hk5 ha5)
                            have HC6 := Aside0.mk hc5
                            have HQ := Aside0.mk (And.intro hr5 (show s5.size ≤ s.size by have := HF.out.2; omega))
                            clear hv hk5 hc5 hr5 hs5 ha5 c0 c1 c2 c3 c4 c5 f0 f1 f2 f3 f4 f5
                            unfold encI
                            obtain ⟨⟨c0, c1, c2, c3, c4, c5⟩, f0, f1, f2, f3, f4, f5⟩ := cells6 HC6.out
                            go_wp2_with (fail)
                            go_meet
                            have hb := ((Below.refl w.heap.size w5).setCell (p := ⟨w.heap.size, 1, none⟩) (Nat.le_refl _) (.int .i64 x))
                            have hKK : KB g w (w5.setCell ⟨w.heap.size, 1, none⟩ (.int .i64 x)) := ⟨hb.os.trans HK6.out.os, hb.tape.trans HK6.out.tape, hb.output.trans HK6.out.output, Nat.le_trans HK6.out.size hb.size, fun k hk hg => (hb.block k hk).trans (HK6.out.block k hk hg)⟩
                            have hz := HC6.out
                            exact ⟨_, _, s5, HBo, ⟨H0.out.kb hKK ((hb.block g hgl).trans H6.out.a)⟩, ⟨hKK⟩, HQ, ⟨[], ⟨#[]⟩, .slice none 0 0, by simp [World.setCell, Array.getElem?_modify, hz, cmdC, Pure.cmd0], rfl, rfl, Kd.R_nil _ _ _ _ _⟩⟩
                        · by_cases k1 : k = 1
                          · obtain rfl := k1
                            have HT := Aside0.mk (call_calls w0 g s' (by have := HF.out.2; omega) _ H5.out)
                            rw [HF.out.1] at HT
                            go_wp2_with (fail)
                            refine HT.out.mono ?_
                            rintro e w5 ⟨hk5, he⟩
                            have HK6 := Aside0.mk (HK5.out.trans hk5)
                            have hc5 := (hk5.block _ (blk_lt HC5.out) (by omega)).trans HC5.out
                            cases hv : Pure.callN r with
                            | bad j =>
                              rw [hv] at he
                              obtain rfl : e = wrongE j := he
                              have HX := Aside0.mk (show Pure.readN (Pure.nb s.data.toList) = .bad j by rw [HXX.out]; show (Pure.Rd.bind (Pure.Rd.bind (Pure.callN r) _) _) = _; rw [hv]; rfl)
                              clear hv hk5 hc5
                              go_wp2
                              refine ⟨rfl, HK6.out, ?_⟩
                              rw [HX.out]
                            | got x q =>
                              rw [hv] at he
                              obtain ⟨v, s5, rfl, rfl, ha5, hr5, hs5⟩ := he
                              have HBB := Aside0.mk (show Pure.bodyN 1 r = if q = [] then .got { Pure.cmd0 1 with dst := x } q else (Pure.viaN q).bind fun v z => .got { Pure.cmd0 1 with dst := x, via := v } z by show (Pure.Rd.bind (Pure.callN r) _) = _; rw [hv]; rfl)
                              have H6 := Aside0.mk (H5.out.kb hk5 ha5)
                              have HC6 := Aside0.mk hc5
                              have hs5' : s5.size ≤ s.size := by have := HF.out.2; omega
                              have HQ := Aside0.mk (And.intro hr5 hs5')
                              clear hv hk5 hc5 hr5 hs5 ha5 c0 c1 c2 c3 c4 c5 f0 f1 f2 f3 f4 f5
                              unfold encC
                              obtain ⟨⟨c0, c1, c2, c3, c4, c5⟩, f0, f1, f2, f3, f4, f5⟩ := cells6 HC6.out
                              have hb := ((Below.refl w.heap.size w5).setCell (p := ⟨w.heap.size, 2, none⟩) (Nat.le_refl _) (.string x.1)).setCell (p := ⟨w.heap.size, 3, none⟩) (Nat.le_refl _) (.int .i64 x.2)
                              obtain ⟨w7, hw7⟩ : ∃ w7, (w5.setCell ⟨w.heap.size, 2, none⟩ (.string x.1)).setCell ⟨w.heap.size, 3, none⟩ (.int .i64 x.2) = w7 := ⟨_, rfl⟩
                              rw [hw7] at hb
                              have HK7 := Aside0.mk (show KB g w w7 from ⟨hb.os.trans HK6.out.os, hb.tape.trans HK6.out.tape, hb.output.trans HK6.out.output, Nat.le_trans HK6.out.size hb.size, fun k hk hg => (hb.block k hk).trans (HK6.out.block k hk hg)⟩)
                              have H7 := Aside0.mk (show At0 w0 g s5 w7 from H0.out.kb HK7.out ((hb.block g hgl).trans H6.out.a))
                              have hz := HC6.out
                              have HC7 := Aside0.mk (show w7.heap[w.heap.size]? = some (.cells #[.int .i64 1, .int .i64 0, .string x.1, .int .i64 x.2, .slice none 0 0, .string ⟨#[]⟩] 32 (0, 0)) by
                                rw [← hw7]
                                simp [World.setCell, Array.getElem?_modify, hz])
                              have HMo := Aside0.mk (more_calls g s5 (by omega) _ H7.out.a)
                              have HW7 := Aside0.mk hw7
                              clear hb hz hw7
                              by_cases hq : q = []
                              · have HBo := Aside0.mk (show Pure.bodyN 1 r = .got { Pure.cmd0 1 with dst := x } q by rw [HBB.out, if_pos hq])
                                rw [show moreB s5 = false by unfold moreB; rw [HQ.out.1, hq]; rfl] at HMo
                                clear hq HBB
                                go_wp2_with (fail)
                                rw [HW7.out]
                                refine HMo.out.mono ?_
                                rintro e w8 ⟨rfl, q8, rfl⟩
                                go_wp2_with (fail)
                                go_meet
                                exact ⟨_, _, s5, HBo, ⟨H7.out.below (pw_below_drewN (Below.refl _ _) q8)⟩, ⟨HK7.out.drewN q8⟩, HQ, ⟨[], ⟨#[]⟩, .slice none 0 0, HC7.out, rfl, rfl, Kd.R_nil _ _ _ _ _⟩⟩
                              · have HBv := Aside0.mk (show Pure.bodyN 1 r = (Pure.viaN q).bind fun v z => .got { Pure.cmd0 1 with dst := x, via := v } z by rw [HBB.out, if_neg hq])
                                rw [show moreB s5 = true by unfold moreB; rw [HQ.out.1]; simpa using hq] at HMo
                                clear hq HBB
                                go_wp2_with (fail)
                                rw [HW7.out]
                                refine HMo.out.mono ?_
                                rintro e w8 ⟨rfl, q8, rfl⟩
                                have H8 := Aside0.mk (H7.out.below (pw_below_drewN (Below.refl _ _) q8))
                                have HV := Aside0.mk (via_calls w0 g s5 (by omega) _ H8.out)
                                rw [HQ.out.1] at HV
                                have HK8 := Aside0.mk (HK7.out.drewN q8)
                                go_wp2_with (fail)
                                refine HV.out.mono ?_
                                rintro e w9 ⟨hk9, he⟩
                                have HK9 := Aside0.mk (HK8.out.trans hk9)
                                have hlt7 : w.heap.size < w7.heap.size := blk_lt HC7.out
                                have hc9 := (hk9.block _ hlt7 (by omega)).trans HC7.out
                                cases hv : Pure.viaN q with
                                | bad j =>
                                  rw [hv] at he
                                  obtain rfl : e = wrongE j := he
                                  have HX := Aside0.mk (show Pure.readN (Pure.nb s.data.toList) = .bad j by rw [HXX.out, HBv.out, hv]; rfl)
                                  clear hv hk9 hc9
                                  go_wp2
                                  refine ⟨rfl, HK9.out, ?_⟩
                                  rw [HX.out]
                                | got vl z =>
                                  rw [hv] at he
                                  obtain ⟨v, s9, rfl, ⟨l, hl, hrow⟩, ha9, hr9, hs9⟩ := he
                                  obtain ⟨A9, cap9, rfl, _, _⟩ := Kd.R_reads hrow
                                  have HBo := Aside0.mk (show Pure.bodyN 1 r = .got { Pure.cmd0 1 with dst := x, via := vl } z by rw [HBv.out, hv]; rfl)
                                  have HC9 := Aside0.mk hc9
                                  have HA9 := Aside0.mk ha9
                                  have HQ9 := Aside0.mk (And.intro hr9 (show s9.size ≤ s.size by omega))
                                  have HRW := Aside0.mk (And.intro hl hrow)
                                  clear hv hk9 hc9 hr9 hs9 ha9 hl hrow c0 c1 c2 c3 c4 c5 f0 f1 f2 f3 f4 f5
                                  obtain ⟨⟨c0, c1, c2, c3, c4, c5⟩, f0, f1, f2, f3, f4, f5⟩ := cells6 HC9.out
                                  go_wp2_with (fail)
                                  go_meet
                                  have hb := (Below.refl w.heap.size w9).setCell (p := ⟨w.heap.size, 4, none⟩) (Nat.le_refl _) (.slice A9 l.length cap9)
                                  have hKK : KB g w (w9.setCell ⟨w.heap.size, 4, none⟩ (.slice A9 l.length cap9)) := ⟨hb.os.trans HK9.out.os, hb.tape.trans HK9.out.tape, hb.output.trans HK9.out.output, Nat.le_trans HK9.out.size hb.size, fun k hk hg => (hb.block k hk).trans (HK9.out.block k hk hg)⟩
                                  have hz := HC9.out
                                  have hlt8 : w.heap.size < (w7.drewN q8).heap.size := hlt7
                                  exact ⟨_, _, s9, HBo, ⟨H0.out.kb hKK ((hb.block g hgl).trans HA9.out)⟩, ⟨hKK⟩, HQ9, ⟨l, ⟨#[]⟩, .slice A9 l.length cap9, by simp [World.setCell, Array.getElem?_modify, hz, cmdC, Pure.cmd0], rfl, HRW.out.1, Kd.R_mono (Kd.R_far HRW.out.2 (p := ⟨w.heap.size, 4, none⟩) (fun k hk => by have : (w7.drewN q8).heap.size ≤ k := hk; show k ≠ w.heap.size; omega) _) (fun k hk => by have : (w7.drewN q8).heap.size ≤ k := hk; omega)⟩⟩
                          · by_cases k5 : k = 5
                            · obtain rfl := k5
                              have HT := Aside0.mk (call_calls w0 g s' (by have := HF.out.2; omega) _ H5.out)
                              rw [HF.out.1] at HT
                              go_wp2_with (fail)
                              refine HT.out.mono ?_
                              rintro e w5 ⟨hk5, he⟩
                              have HK6 := Aside0.mk (HK5.out.trans hk5)
                              have hc5 := (hk5.block _ (blk_lt HC5.out) (by omega)).trans HC5.out
                              cases hv : Pure.callN r with
                              | bad j =>
                                rw [hv] at he
                                obtain rfl : e = wrongE j := he
                                have HX := Aside0.mk (show Pure.readN (Pure.nb s.data.toList) = .bad j by rw [HXX.out]; show (Pure.Rd.bind (Pure.Rd.bind (Pure.callN r) _) _) = _; rw [hv]; rfl)
                                clear hv hk5 hc5
                                go_wp2
                                refine ⟨rfl, HK6.out, ?_⟩
                                rw [HX.out]
                              | got x q =>
                                rw [hv] at he
                                obtain ⟨v, s5, rfl, rfl, ha5, hr5, hs5⟩ := he
                                have HBB := Aside0.mk (show Pure.bodyN 5 r = if q = [] then .got { Pure.cmd0 5 with dst := x } q else (Pure.viaN q).bind fun v z => .got { Pure.cmd0 5 with dst := x, via := v } z by show (Pure.Rd.bind (Pure.callN r) _) = _; rw [hv]; rfl)
                                have H6 := Aside0.mk (H5.out.kb hk5 ha5)
                                have HC6 := Aside0.mk hc5
                                have hs5' : s5.size ≤ s.size := by have := HF.out.2; omega
                                have HQ := Aside0.mk (And.intro hr5 hs5')
                                clear hv hk5 hc5 hr5 hs5 ha5 c0 c1 c2 c3 c4 c5 f0 f1 f2 f3 f4 f5
                                unfold encC
                                obtain ⟨⟨c0, c1, c2, c3, c4, c5⟩, f0, f1, f2, f3, f4, f5⟩ := cells6 HC6.out
                                have hb := ((Below.refl w.heap.size w5).setCell (p := ⟨w.heap.size, 2, none⟩) (Nat.le_refl _) (.string x.1)).setCell (p := ⟨w.heap.size, 3, none⟩) (Nat.le_refl _) (.int .i64 x.2)
                                obtain ⟨w7, hw7⟩ : ∃ w7, (w5.setCell ⟨w.heap.size, 2, none⟩ (.string x.1)).setCell ⟨w.heap.size, 3, none⟩ (.int .i64 x.2) = w7 := ⟨_, rfl⟩
                                rw [hw7] at hb
                                have HK7 := Aside0.mk (show KB g w w7 from ⟨hb.os.trans HK6.out.os, hb.tape.trans HK6.out.tape, hb.output.trans HK6.out.output, Nat.le_trans HK6.out.size hb.size, fun k hk hg => (hb.block k hk).trans (HK6.out.block k hk hg)⟩)
                                have H7 := Aside0.mk (show At0 w0 g s5 w7 from H0.out.kb HK7.out ((hb.block g hgl).trans H6.out.a))
                                have hz := HC6.out
                                have HC7 := Aside0.mk (show w7.heap[w.heap.size]? = some (.cells #[.int .i64 5, .int .i64 0, .string x.1, .int .i64 x.2, .slice none 0 0, .string ⟨#[]⟩] 32 (0, 0)) by
                                  rw [← hw7]
                                  simp [World.setCell, Array.getElem?_modify, hz])
                                have HMo := Aside0.mk (more_calls g s5 (by omega) _ H7.out.a)
                                have HW7 := Aside0.mk hw7
                                clear hb hz hw7
                                by_cases hq : q = []
                                · have HBo := Aside0.mk (show Pure.bodyN 5 r = .got { Pure.cmd0 5 with dst := x } q by rw [HBB.out, if_pos hq])
                                  rw [show moreB s5 = false by unfold moreB; rw [HQ.out.1, hq]; rfl] at HMo
                                  clear hq HBB
                                  go_wp2_with (fail)
                                  rw [HW7.out]
                                  refine HMo.out.mono ?_
                                  rintro e w8 ⟨rfl, q8, rfl⟩
                                  go_wp2_with (fail)
                                  go_meet
                                  exact ⟨_, _, s5, HBo, ⟨H7.out.below (pw_below_drewN (Below.refl _ _) q8)⟩, ⟨HK7.out.drewN q8⟩, HQ, ⟨[], ⟨#[]⟩, .slice none 0 0, HC7.out, rfl, rfl, Kd.R_nil _ _ _ _ _⟩⟩
                                · have HBv := Aside0.mk (show Pure.bodyN 5 r = (Pure.viaN q).bind fun v z => .got { Pure.cmd0 5 with dst := x, via := v } z by rw [HBB.out, if_neg hq])
                                  rw [show moreB s5 = true by unfold moreB; rw [HQ.out.1]; simpa using hq] at HMo
                                  clear hq HBB
                                  go_wp2_with (fail)
                                  rw [HW7.out]
                                  refine HMo.out.mono ?_
                                  rintro e w8 ⟨rfl, q8, rfl⟩
                                  have H8 := Aside0.mk (H7.out.below (pw_below_drewN (Below.refl _ _) q8))
                                  have HV := Aside0.mk (via_calls w0 g s5 (by omega) _ H8.out)
                                  rw [HQ.out.1] at HV
                                  have HK8 := Aside0.mk (HK7.out.drewN q8)
                                  go_wp2_with (fail)
                                  refine HV.out.mono ?_
                                  rintro e w9 ⟨hk9, he⟩
                                  have HK9 := Aside0.mk (HK8.out.trans hk9)
                                  have hlt7 : w.heap.size < w7.heap.size := blk_lt HC7.out
                                  have hc9 := (hk9.block _ hlt7 (by omega)).trans HC7.out
                                  cases hv : Pure.viaN q with
                                  | bad j =>
                                    rw [hv] at he
                                    obtain rfl : e = wrongE j := he
                                    have HX := Aside0.mk (show Pure.readN (Pure.nb s.data.toList) = .bad j by rw [HXX.out, HBv.out, hv]; rfl)
                                    clear hv hk9 hc9
                                    go_wp2
                                    refine ⟨rfl, HK9.out, ?_⟩
                                    rw [HX.out]
                                  | got vl z =>
                                    rw [hv] at he
                                    obtain ⟨v, s9, rfl, ⟨l, hl, hrow⟩, ha9, hr9, hs9⟩ := he
                                    obtain ⟨A9, cap9, rfl, _, _⟩ := Kd.R_reads hrow
                                    have HBo := Aside0.mk (show Pure.bodyN 5 r = .got { Pure.cmd0 5 with dst := x, via := vl } z by rw [HBv.out, hv]; rfl)
                                    have HC9 := Aside0.mk hc9
                                    have HA9 := Aside0.mk ha9
                                    have HQ9 := Aside0.mk (And.intro hr9 (show s9.size ≤ s.size by omega))
                                    have HRW := Aside0.mk (And.intro hl hrow)
                                    clear hv hk9 hc9 hr9 hs9 ha9 hl hrow c0 c1 c2 c3 c4 c5 f0 f1 f2 f3 f4 f5
                                    obtain ⟨⟨c0, c1, c2, c3, c4, c5⟩, f0, f1, f2, f3, f4, f5⟩ := cells6 HC9.out
                                    go_wp2_with (fail)
                                    go_meet
                                    have hb := (Below.refl w.heap.size w9).setCell (p := ⟨w.heap.size, 4, none⟩) (Nat.le_refl _) (.slice A9 l.length cap9)
                                    have hKK : KB g w (w9.setCell ⟨w.heap.size, 4, none⟩ (.slice A9 l.length cap9)) := ⟨hb.os.trans HK9.out.os, hb.tape.trans HK9.out.tape, hb.output.trans HK9.out.output, Nat.le_trans HK9.out.size hb.size, fun k hk hg => (hb.block k hk).trans (HK9.out.block k hk hg)⟩
                                    have hz := HC9.out
                                    have hlt8 : w.heap.size < (w7.drewN q8).heap.size := hlt7
                                    exact ⟨_, _, s9, HBo, ⟨H0.out.kb hKK ((hb.block g hgl).trans HA9.out)⟩, ⟨hKK⟩, HQ9, ⟨l, ⟨#[]⟩, .slice A9 l.length cap9, by simp [World.setCell, Array.getElem?_modify, hz, cmdC, Pure.cmd0], rfl, HRW.out.1, Kd.R_mono (Kd.R_far HRW.out.2 (p := ⟨w.heap.size, 4, none⟩) (fun k hk => by have : (w7.drewN q8).heap.size ≤ k := hk; show k ≠ w.heap.size; omega) _) (fun k hk => by have : (w7.drewN q8).heap.size ≤ k := hk; omega)⟩⟩
                            · have hn : Pure.bndN k = none := by unfold Pure.bndN; rw [if_neg k6, if_neg k9, if_neg k10, if_neg k11, if_neg k12, if_neg k16]
                              obtain rfl : bb = false := by
                                rcases hbn with ⟨h, _⟩ | ⟨_, h⟩
                                · rw [hn] at h; cases h
                                · exact h
                              have HBo := Aside0.mk (show Pure.bodyN k r = .got (Pure.cmd0 k) r by unfold Pure.bodyN; rw [if_neg k0, if_neg (by omega), if_neg k6, if_neg k13, if_neg (by omega), hn])
                              clear hbn hn
                              have b1 : (k == 1) = false := beq_eq_false_iff_ne.2 k1
                              have b5 : (k == 5) = false := beq_eq_false_iff_ne.2 k5
                              have b6 : (k == 6) = false := beq_eq_false_iff_ne.2 k6
                              have b13 : (k == 13) = false := beq_eq_false_iff_ne.2 k13
                              have b15 : (k == 15) = false := beq_eq_false_iff_ne.2 k15
                              have b17 : (k == 17) = false := beq_eq_false_iff_ne.2 k17
                              go_wp2_with (fail)
                              go_meet
                              exact ⟨_, _, s', HBo, H5, HK5, HF, ⟨[], ⟨#[]⟩, .slice none 0 0, HC5.out, rfl, rfl, Kd.R_nil _ _ _ _ _⟩⟩
    case rest =>
      obtain ⟨c, q, s5, HBo, H6, HK6, HQ, HR6⟩ := hcut
      obtain ⟨l, tx, via, hce, htx, hvia, hrow⟩ := HR6.out
      obtain ⟨A5, cap5, rfl, _, _⟩ := Kd.R_reads hrow
      have HCE := Aside0.mk hce
      have HRW := Aside0.mk hrow
      have HTX := Aside0.mk (And.intro htx hvia)
      clear hce hrow htx hvia HR6 HC5 H5 HK5 c0 c1 c2 c3 c4 c5 f0 f1 f2 f3 f4 f5
      have HMo := Aside0.mk (more_calls g s5 (by have := HQ.out.2; omega) _ H6.out.a)
      by_cases hq : q = []
      · have HX := Aside0.mk (show Pure.readN (Pure.nb s.data.toList) = .got c q by rw [HXX.out, HBo.out]; show (if q = [] then _ else _) = _; rw [if_pos hq])
        rw [show moreB s5 = false by unfold moreB; rw [HQ.out.1, hq]; rfl] at HMo
        clear hq HXX HBo
        go_wp2_with (fail)
        refine HMo.out.mono ?_
        rintro e w6 ⟨rfl, q6, rfl⟩
        go_wp2_with (fail)
        refine (must_ok 5 _).mono ?_
        rintro e w7 ⟨rfl, rfl⟩
        have hc7 := HCE.out
        unfold cmdC at hc7
        obtain ⟨⟨c0, c1, c2, c3, c4, c5⟩, f0, f1, f2, f3, f4, f5⟩ := cells6 hc7
        clear hc7
        go_wp2
        have hc8 : (wc.drewN q6).heap[w.heap.size]? = some (.cells #[.int .i64 c.k, .int .i64 c.n, .string c.dst.1, .int .i64 c.dst.2, .slice A5 l.length cap5, .string tx] 32 (0, 0)) := HCE.out
        refine bodyPost_ret (results_single rfl (.cell w.heap.size 32 (cmdC c.k c.n c.dst.1 c.dst.2 (.slice A5 l.length cap5) tx) (0, 0) _ rfl (six_set hc8) Tryz.underlying32 rfl (by kernel_rfl) .nil)) rfl ?_
        have hb := six_below (wc.drewN q6) w.heap.size (.int .i64 c.k) (.int .i64 c.n) (.string c.dst.1) (.int .i64 c.dst.2) (.slice A5 l.length cap5) (.string tx)
        have hK := HK6.out.drewN q6
        refine ⟨⟨hb.os.trans hK.os, hb.tape.trans hK.tape, hb.output.trans hK.output, Nat.le_trans hK.size hb.size, fun k hk hg => (hb.block k hk).trans (hK.block k hk hg)⟩, ?_⟩
        rw [HX.out]
        refine ⟨_, s5, rfl, ⟨l, tx, _, rfl, HTX.out.1, HTX.out.2, ?_⟩, (hb.block g hgl).trans (H6.out.a.drewN q6), HQ.out.1, HQ.out.2⟩
        exact Kd.R_mono (Kd.R_step (w := wc) HRW.out (fun k hk _ => six_far (wc.drewN q6) w.heap.size _ _ _ _ _ _ k (by have : w.heap.size < k := hk; omega))) (fun k hk => Nat.le_of_lt hk)
      · have HX := Aside0.mk (show Pure.readN (Pure.nb s.data.toList) = .bad 5 by rw [HXX.out, HBo.out]; show (if q = [] then _ else _) = _; rw [if_neg hq])
        rw [show moreB s5 = true by unfold moreB; rw [HQ.out.1]; simpa using hq] at HMo
        clear hq HXX HBo
        go_wp2_with (fail)
        refine HMo.out.mono ?_
        rintro e w6 ⟨rfl, q6, rfl⟩
        go_wp2_with (fail)
        refine (must_bad 5 _).mono ?_
        rintro e w7 ⟨rfl, rfl⟩
        go_wp2
        refine ⟨rfl, HK6.out.drewN q6, ?_⟩
        rw [HX.out]
end Go.Proofs.YtgaboenipiojoaaGreatDoor.QAll
end

section
/- cmd.Parse's deferred closure: its contracts; cmd.Parse. -/
set_option linter.unusedVariables false
set_option linter.unusedSimpArgs false
namespace Go.Proofs.YtgaboenipiojoaaGreatDoor.QAll
open Go.RowKit Go.Proofs.YtgaboenipiojoaaGreatDoorW.PrintWords Go.Proofs.YtgaboenipiojoaaGreatDoorW.PrintLast Go.Proofs.YtgaboenipiojoaaGreatDoorW.PrintMore
theorem catch_idle (p q : Addr) (w : World) :
    CallsD Tryz.prog 33 #[.pointer (some p), .pointer (some q)] .returning w fun e u' w' => e = .returned (.tuple #[]) ∧ u' = .returning ∧ w' = w := by
  refine callsD_of_wpS Tryz.func33 rfl fun c₀ cs hu => ?_
  apply wpS_seq
  apply wpS_region
  simp [wpOpsS, go_sem, recoverD, hu, Tryz.ntmps33, Exit.thenS]
  refine wpS_of_wp ?_
  cases c₀
  simp at hu
  go_wp2
  simp_all [bodyPostS, results, Tryz.f33]
theorem wp_opaque {P : Program} {c : Code} {Q : Exit → Act → World → Prop} {a : Act} {w : World} (h : ∀ Q' : Exit → Act → World → Prop, (∀ e a w, Q e a w → Q' e a w) → c.wp P Q' a w) : c.wp P Q a w := h Q (fun _ _ _ h => h)
theorem build32 (w : World) : (Instr.build 32 #[]).run Tryz.prog w = .ok (.agg zCmd) w := run_build w 32 #[] zCmd (by kernel_rfl)
theorem assert64 (v : Value) (w : World) : (Instr.typeAssert (.iface 64 v) 20 64 true).run Tryz.prog w = .ok (.tuple #[v, .bool true]) w := by kernel_rfl
set_option maxHeartbeats 1000000 in
set_option maxRecDepth 100000 in
theorem catch_wrong (pb qb : Nat) (hne : pb ≠ qb) (ev : Int) (older : List PanicEntry) (w : World) (a b c d e f : Value) (h : Value)
    (hp : w.heap[pb]? = some (.cells #[a, b, c, d, e, f] 32 (0, 0))) (hq : w.heap[qb]? = some (.cells #[h] 33 (0, 0))) :
    CallsD Tryz.prog 33 #[.pointer (some ⟨pb, 0, none⟩), .pointer (some ⟨qb, 0, none⟩)] (.panicking ({ v := .iface 64 (.int .i64 ev), recovered := false } :: older)) w fun e u' w' =>
      e = .returned (.tuple #[]) ∧ u' = .panicking ({ v := .iface 64 (.int .i64 ev), recovered := true } :: older) ∧ Below (min pb qb) w w' ∧
      w'.heap[pb]? = some (.cells zCmd 32 (0, 0)) ∧ w'.heap[qb]? = some (.cells #[.int .i64 ev] 33 (0, 0)) := by
  obtain ⟨⟨c0, c1, c2, c3, c4, c5⟩, f0, f1, f2, f3, f4, f5⟩ := cells6 hp
  obtain ⟨g0, g1⟩ : w.cell? ⟨qb, 0, none⟩ = some h ∧ w.frozen? ⟨qb, 0, none⟩ = false := by simp [World.cell?, World.frozen?, hq]
  have hne1 : ¬ pb = qb := hne
  have hne2 : ¬ qb = pb := fun h => hne h.symm
  have hu32 := Tryz.underlying32
  refine callsD_of_wpS Tryz.func33 rfl fun c₀ cs hu => ?_
  apply wpS_seq
  apply wpS_region
  simp [wpOpsS, go_sem, recoverD, hu, Tryz.ntmps33, Exit.thenS]
  refine wpS_of_wp ?_
  have ht : (#[Value.pointer (some { block := pb, off := 0 }), Value.pointer (some { block := qb, off := 0 })] ++
          (Array.replicate 11 undef).setIfInBounds 3 (Value.iface 64 (Value.int IntKind.i64 ev)) : Array Value) = #[Value.pointer (some { block := pb, off := 0 }), Value.pointer (some { block := qb, off := 0 }), undef, undef, undef, .iface 64 (.int .i64 ev), undef, undef, undef, undef, undef, undef, undef] := rfl
  rw [ht]
  clear ht
  have hu0 := hu
  clear hu
  have hb32 := build32
  have has := assert64
  unfold zCmd at hb32
  refine wp_opaque fun Q' hQ => ?_
  have HQ := Aside0.mk hQ
  clear hQ
  go_wp2
  refine HQ.out _ _ _ ?_
  have hz := six_set (a' := .int .i64 0) (b' := .int .i64 0) (c' := .string ⟨#[]⟩) (d' := .int .i64 0) (e' := .slice none 0 0) (f' := .string ⟨#[]⟩) hp
  have hy := (six_far w pb (.int .i64 0) (.int .i64 0) (.string ⟨#[]⟩) (.int .i64 0) (.slice none 0 0) (.string ⟨#[]⟩) qb hne2).trans hq
  have hb := six_below w pb (.int .i64 0) (.int .i64 0) (.string ⟨#[]⟩) (.int .i64 0) (.slice none 0 0) (.string ⟨#[]⟩)
  generalize ((((((w.setCell ⟨pb, 0, none⟩ (.int .i64 0)).setCell ⟨pb, 1, none⟩ (.int .i64 0)).setCell ⟨pb, 2, none⟩ (.string ⟨#[]⟩)).setCell ⟨pb, 3, none⟩ (.int .i64 0)).setCell ⟨pb, 4, none⟩ (.slice none 0 0)).setCell ⟨pb, 5, none⟩ (.string ⟨#[]⟩)) = w6 at hz hy hb ⊢
  have h1 : (w6.setCell ⟨qb, 0, none⟩ (.int .i64 ev)).heap[pb]? = some (.cells zCmd 32 (0, 0)) := (Below.heap_setCell w6 ⟨qb, 0, none⟩ _ pb hne1).trans hz
  have h2 : (w6.setCell ⟨qb, 0, none⟩ (.int .i64 ev)).heap[qb]? = some (.cells #[.int .i64 ev] 33 (0, 0)) := by simp [World.setCell, Array.getElem?_modify, hy]
  have h3 : Below (min pb qb) w (w6.setCell ⟨qb, 0, none⟩ (.int .i64 ev)) := Below.setCell (p := ⟨qb, 0, none⟩) (hb.mono (Nat.min_le_left pb qb)) (Nat.min_le_right pb qb) _
  generalize w6.setCell ⟨qb, 0, none⟩ (.int .i64 ev) = w7 at h1 h2 h3 ⊢
  simp [bodyPostS, results, Tryz.f33, hu0, h1, h2, h3]
/-- What Parse hands back: a command in memory of its own. -/
def CmdQ (w0 : World) (a : Pure.CmdM) (v : Value) (w' : World) : Prop :=
  ∃ (l : List S29) (tx : ByteArray) (via : Value), v = .agg (cmdC a.k a.n a.dst.1 a.dst.2 via tx) ∧ tx.data.toList = a.text ∧ a.via = l.map (fun x => (x.f0, x.f1)) ∧ Kd.R k29 29 w' w0.heap.size (fun k => w0.heap.size ≤ k) via l
def ParseP (w : World) (s : ByteArray) (e : Ending) (w' : World) : Prop :=
  Below w.heap.size w w' ∧ ∃ v, e = .returned (.tuple #[v, .int .i64 (Pure.parseN s.data.toList).2]) ∧ CmdQ w (Pure.parseN s.data.toList).1 v w'
theorem results_cs {P : Program} {fn : Func} {p q : Tmp} {ty tz : TypeId} (h : fn.results = #[.cell p ty, .cell q tz]) (tmps : Array Value) (w : World) (g g' : Nat) (t t' : TypeId) (cs : Array Value) (x : Value) (d d' : TypeDesc)
    (hp : tmps.getD p undef = .pointer (some ⟨g, 0, none⟩)) (hq : tmps.getD q undef = .pointer (some ⟨g', 0, none⟩)) (hg : w.heap[g]? = some (.cells cs t (0, 0))) (hg' : w.heap[g']? = some (.cells #[x] t' (0, 0)))
    (hd : (match d with | .struct _ | .array _ _ => true | _ => false) = true) (hd' : (match d' with | .struct _ | .array _ _ => true | _ => false) = false)
    (hu : P.underlying ty = some d) (hi : (P.info? ty).map (·.size) = some cs.size) (hu' : P.underlying tz = some d') : (results fn tmps).run P w = .ok (.tuple #[.agg cs, x]) w := by
  have h1 := run_loadVar_row w g t ty cs (0, 0) d hg hu (by cases d <;> first | rfl | (simp at hd)) hi
  have h2 : (loadVar tz ⟨g', 0, none⟩).run P w = .ok x w := by
    unfold loadVar isAgg load
    rw [Sem.run_bind, Sem.run_bind, run_underlying hu']
    cases d' <;> first | (simp at hd'; done) | (simp [Sem.run, World.cell?, hg'])
  unfold results
  rw [h, List.mapM_toArray]
  simp only [Sem.run_bind, Sem.run_map]
  have e1 : asAddr (tmps.getD p undef) = pure ⟨g, 0, none⟩ := by rw [hp]; rfl
  have e2 : asAddr (tmps.getD q undef) = pure ⟨g', 0, none⟩ := by rw [hq]; rfl
  rw [List.mapM_cons, List.mapM_cons, List.mapM_nil]
  simp only [e1, e2]
  simp [h1, h2]
set_option maxHeartbeats 4000000 in
set_option maxRecDepth 100000 in
theorem parse_calls (s : ByteArray) (hs : s.size ≤ 1000000) (w : World) (hE : EnvW w) :
    Calls Tryz.prog 11 #[.string s] w (ParseP w s) := by
  have HE := Aside0.mk hE
  clear hE
  have hu32 := Tryz.underlying32
  have hmf : ∀ (fn : Fn) (first cap : Array Value) (w : World), (Instr.makeFunc fn first cap).run Tryz.prog w = .ok (.func fn first cap) w := fun _ _ _ _ => rfl
  have hb1 := (Below.refl w.heap.size w).alloc (Nat.le_refl _) (.cells zCmd 32)
  have hb2 := hb1.alloc (by simp) (.cells #[.int .i64 0] 33)
  have hb3 := hb2.alloc (by simp; omega) (.cells #[.string s] 67)
  have HW := Aside0.mk (show ∃ w3, ((w.alloc (.cells zCmd 32)).alloc (.cells #[.int .i64 0] 33)).alloc (.cells #[.string s] 67) = w3 ∧ Below w.heap.size w w3 ∧ w3.heap.size = w.heap.size + 3 ∧
      w3.heap[w.heap.size]? = some (.cells zCmd 32 (0, 0)) ∧ w3.heap[w.heap.size + 1]? = some (.cells #[.int .i64 0] 33 (0, 0)) ∧ w3.heap[w.heap.size + 1 + 1]? = some (.cells #[.string s] 67 (0, 0)) from
    ⟨_, rfl, hb3, by simp, (Below.heap_alloc _ _ _ (by simp; omega)).trans ((Below.heap_alloc _ _ _ (by simp)).trans (heap_alloc_new w _)), (Below.heap_alloc _ _ _ (by simp)).trans (by have := heap_alloc_new (w.alloc (.cells zCmd 32)) (.cells #[.int .i64 0] 33); simpa using this), by have := heap_alloc_new ((w.alloc (.cells zCmd 32)).alloc (.cells #[.int .i64 0] 33)) (.cells #[.string s] 67); simpa using this⟩)
  clear hb1 hb2 hb3
  unfold zCmd at HW
  go_enter_defers Tryz.func11, Tryz.ntmps11
  go_wp2_with (fail)
  obtain ⟨w3, h30, h31, h32, h33, h34, h35⟩ := HW.out
  rw [h30]
  clear h30 HW
  have H3 := Aside0.mk (show At0 w (w.heap.size + 1 + 1) s w3 from ⟨HE.out, h31, by omega, h35⟩)
  have HF := Aside0.mk (And.intro h31 (And.intro h32 (And.intro h33 h34)))
  clear h31 h32 h33 h34 h35
  have HR := Aside0.mk (read_calls w (w.heap.size + 1 + 1) s hs w3 H3.out)
  refine HR.out.mono ?_
  rintro e w4 ⟨hk, he⟩
  obtain ⟨h31, h32, h33, h34⟩ := HF.out
  have h41 : w4.heap[w.heap.size]? = some (.cells zCmd 32 (0, 0)) := (hk.block _ (by omega) (by omega)).trans h33
  have h42 : w4.heap[w.heap.size + 1]? = some (.cells #[.int .i64 0] 33 (0, 0)) := (hk.block _ (by omega) (by omega)).trans h34
  have h43 : Below w.heap.size w w4 := hk.below h31 (by omega) (by omega)
  cases hrd : Pure.readN (Pure.nb s.data.toList) with
  | bad k =>
    rw [hrd] at he
    obtain rfl : e = wrongE k := he
    have hp : Pure.parseN s.data.toList = (Pure.cmd0 0, k) := by unfold Pure.parseN; rw [hrd]
    rw [wrongE]
    show Leaves _ _ _ _ _ _ _
    refine leaves_cons (f := 33) (args := #[.pointer (some ⟨w.heap.size, 0, none⟩), .pointer (some ⟨w.heap.size + 1, 0, none⟩)]) (by simp) (by simp [go_sem]) ?_
    refine (catch_wrong w.heap.size (w.heap.size + 1) (by omega) k [] w4 _ _ _ _ _ _ _ h41 h42).mono ?_
    rintro e u' w5 ⟨rfl, rfl, hb5, h51, h52⟩
    refine ⟨_, results_cs rfl _ w5 w.heap.size (w.heap.size + 1) 32 33 zCmd (.int .i64 k) _ _ rfl rfl h51 h52 rfl rfl Tryz.underlying32 (by kernel_rfl) Tryz.underlying33, ?_, ?_⟩
    · exact h43.trans (hb5.mono (by simp))
    · rw [hp]
      exact ⟨_, rfl, [], ⟨#[]⟩, .slice none 0 0, rfl, rfl, rfl, Kd.R_nil _ _ _ _ _⟩
  | got a r =>
    rw [hrd] at he
    obtain ⟨v, s', rfl, ⟨l, tx, via, rfl, htx, hvia, hrow⟩, -, -, -⟩ := he
    have hp : Pure.parseN s.data.toList = (a, 0) := by unfold Pure.parseN; rw [hrd]
    obtain ⟨A4, cap4, rfl, hA4, -⟩ := Kd.R_reads hrow
    obtain ⟨⟨c0, c1, c2, c3, c4, c5⟩, f0, f1, f2, f3, f4, f5⟩ := cells6 h41
    obtain ⟨g0, g1⟩ : w4.cell? ⟨w.heap.size + 1, 0, none⟩ = some (.int .i64 0) ∧ w4.frozen? ⟨w.heap.size + 1, 0, none⟩ = false := by simp [World.cell?, World.frozen?, h42]
    have HF4 := Aside0.mk (And.intro h41 (And.intro h42 (And.intro h43 (And.intro hk.size h32))))
    have HRW := Aside0.mk (And.intro htx (And.intro hvia hrow))
    have HP := Aside0.mk hp
    clear h31 h32 h33 h34 h41 h42 h43 hk hrow htx hvia hp hrd HR HF H3 hA4
    unfold cmdC
    go_wp2
    obtain ⟨h41, h42, h43, hsz, h32⟩ := HF4.out
    obtain ⟨htx, hvia, hrow⟩ := HRW.out
    have hz := six_set (a' := .int .i64 a.k) (b' := .int .i64 a.n) (c' := .string a.dst.1) (d' := .int .i64 a.dst.2) (e' := .slice A4 l.length cap4) (f' := .string tx) h41
    have hy := (six_far w4 w.heap.size (.int .i64 a.k) (.int .i64 a.n) (.string a.dst.1) (.int .i64 a.dst.2) (.slice A4 l.length cap4) (.string tx) (w.heap.size + 1) (by omega)).trans h42
    have hb := six_below w4 w.heap.size (.int .i64 a.k) (.int .i64 a.n) (.string a.dst.1) (.int .i64 a.dst.2) (.slice A4 l.length cap4) (.string tx)
    have hr6 := Kd.R_step hrow (fun k hk _ => six_far w4 w.heap.size (.int .i64 a.k) (.int .i64 a.n) (.string a.dst.1) (.int .i64 a.dst.2) (.slice A4 l.length cap4) (.string tx) k (by have : w3.heap.size ≤ k := hk; omega))
    generalize ((((((w4.setCell ⟨w.heap.size, 0, none⟩ (.int .i64 a.k)).setCell ⟨w.heap.size, 1, none⟩ (.int .i64 a.n)).setCell ⟨w.heap.size, 2, none⟩ (.string a.dst.1)).setCell ⟨w.heap.size, 3, none⟩ (.int .i64 a.dst.2)).setCell ⟨w.heap.size, 4, none⟩ (.slice A4 l.length cap4)).setCell ⟨w.heap.size, 5, none⟩ (.string tx)) = w6 at hz hy hb hr6 ⊢
    have h1 : (w6.setCell ⟨w.heap.size + 1, 0, none⟩ (.int .i64 0)).heap[w.heap.size]? = some (.cells (cmdC a.k a.n a.dst.1 a.dst.2 (.slice A4 l.length cap4) tx) 32 (0, 0)) := (Below.heap_setCell w6 ⟨w.heap.size + 1, 0, none⟩ _ w.heap.size (by show w.heap.size ≠ w.heap.size + 1; omega)).trans hz
    have h2 : (w6.setCell ⟨w.heap.size + 1, 0, none⟩ (.int .i64 0)).heap[w.heap.size + 1]? = some (.cells #[.int .i64 0] 33 (0, 0)) := by simp [World.setCell, Array.getElem?_modify, hy]
    have h3 : Below w.heap.size w (w6.setCell ⟨w.heap.size + 1, 0, none⟩ (.int .i64 0)) := Below.setCell (p := ⟨w.heap.size + 1, 0, none⟩) (h43.trans hb) (by simp) _
    have h4 := Kd.R_mono (Kd.R_far hr6 (p := ⟨w.heap.size + 1, 0, none⟩) (fun k hk => by have : w3.heap.size ≤ k := hk; show k ≠ w.heap.size + 1; omega) (.int .i64 0)) (ok' := fun k => w.heap.size ≤ k) (fun k hk => by have : w3.heap.size ≤ k := hk; omega)
    generalize w6.setCell ⟨w.heap.size + 1, 0, none⟩ (.int .i64 0) = w7 at h1 h2 h3 h4 ⊢
    show Leaves _ _ _ _ _ _ _
    refine leaves_cons (f := 33) (args := #[.pointer (some ⟨w.heap.size, 0, none⟩), .pointer (some ⟨w.heap.size + 1, 0, none⟩)]) (by simp) (by simp [go_sem]) ?_
    refine (catch_idle _ _ w7).mono ?_
    rintro e u' w8 ⟨rfl, rfl, rfl⟩
    refine ⟨_, results_cs rfl _ w8 w.heap.size (w.heap.size + 1) 32 33 _ (.int .i64 0) _ _ rfl rfl h1 h2 rfl rfl Tryz.underlying32 (by kernel_rfl) Tryz.underlying33, h3, ?_⟩
    rw [HP.out]
    exact ⟨_, rfl, l, tx, _, rfl, htx, hvia, h4⟩
end Go.Proofs.YtgaboenipiojoaaGreatDoor.QAll
end

section
/- The example of layer 25: what cmd.Parse tells of one line. -/
set_option linter.unusedVariables false
set_option linter.unusedSimpArgs false
namespace Go.Proofs.YtgaboenipiojoaaGreatDoor.QAll
open Go.RowKit Go.Proofs.YtgaboenipiojoaaGreatDoorW.PrintWords Go.Proofs.YtgaboenipiojoaaGreatDoorW.PrintLast Go.Proofs.YtgaboenipiojoaaGreatDoorW.PrintMore
/-- What Parse tells of a line of which that is known. -/
theorem parse_at (s : ByteArray) (hs : s.size ≤ 1000000) (k n : Int) (b : ByteArray) (ss : Int) (vl : List (ByteArray × Int)) (tl : Pure.L8) (er : Int) (hp : Pure.parseN s.data.toList = (⟨k, n, (b, ss), vl, tl⟩, er)) (w : World) (hE : EnvW w) :
    Calls Tryz.prog 11 #[.string s] w fun e w' => Below w.heap.size w w' ∧ ∃ (l : List S29) (tx : ByteArray) (A : Option Addr) (cap : Nat), e = .returned (.tuple #[.agg #[.int .i64 k, .int .i64 n, .string b, .int .i64 ss, .slice A l.length cap, .string tx], .int .i64 er]) ∧
      tx.data.toList = tl ∧ vl = l.map (fun x => (x.f0, x.f1)) ∧ Kd.C k29 w' A l.length l ∧ l.length ≤ cap := by
  refine (parse_calls s hs w hE).mono ?_
  rintro e w1 ⟨hb, v, rfl, hq⟩
  rw [hp] at hq ⊢
  obtain ⟨l, tx, via, rfl, htx, hvia, hrow⟩ := hq
  obtain ⟨A, cap, rfl, hc, hC⟩ := Kd.R_reads hrow
  exact ⟨hb, l, tx, A, cap, rfl, htx, hvia, hC, hc⟩
def awkB : ByteArray := ⟨#[99, 32, 110, 48, 99, 97, 108, 108, 32, 118, 32, 97, 44, 98, 45, 50]⟩
theorem awk_parse : Pure.parseN awkB.data.toList = (⟨1, 0, (⟨#[78, 48, 67, 65, 76, 76]⟩, 0), [(⟨#[65]⟩, 0), (⟨#[66]⟩, 2)], []⟩, 0) := by kernel_rfl
set_option maxHeartbeats 2000000 in
set_option maxRecDepth 100000 in
theorem awake5_calls (w : World) (hE : EnvW w) : Calls Tryz.prog 7 #[] w fun e w' => e = .returned (.bool true) ∧ Below w.heap.size w w' := by
  have HE := Aside0.mk hE
  clear hE
  have hu32 := Tryz.underlying32
  have hu29 := Tryz.underlying29
  have HP := Aside0.mk (parse_at awkB (by decide) 1 0 _ 0 _ [] 0 awk_parse w HE.out)
  unfold awkB at HP
  go_enter Tryz.func7, Tryz.ntmps7
  go_wp2_with (fail)
  refine HP.out.mono ?_
  rintro e w1 ⟨hb1, l, tx, A, cap, rfl, htx, hvia, hC, hcap⟩
  obtain ⟨x, y, rfl⟩ : ∃ x y, l = [x, y] := by
    have hl := congrArg List.length hvia
    rw [List.length_map] at hl
    match l, hl with
    | [x, y], _ => exact ⟨x, y, rfl⟩
  simp only [List.map_cons, List.map_nil, List.cons.injEq, Prod.mk.injEq] at hvia
  obtain ⟨-, ⟨hy0, hy1⟩, -⟩ := hvia
  obtain ⟨ad, rfl, ca, cb⟩ := at_T29 hC 1 (by omega) (by simp)
  have e1 : rd_T29 [x, y] 1 = y := rfl
  rw [e1, ← hy0] at ca
  rw [e1, ← hy1] at cb
  have hlt := World.block_lt_of_cell? _ _ ca
  obtain ⟨b0, o0, s0⟩ := ad
  have ca' : w1.cell? ⟨b0, o0 + 2, none⟩ = some (.string ⟨#[66]⟩) := ca
  have cb' : w1.cell? ⟨b0, o0 + 2 + 1, none⟩ = some (.int .i64 2) := cb
  have hlt' : b0 < w1.heap.size := hlt
  have hne : ¬ w1.heap.size = b0 := by omega
  have hne' : ¬ b0 = w1.heap.size := by omega
  have HF := Aside0.mk hb1
  clear ca cb hlt hC hcap hb1 htx hy0 hy1 e1 HP HE
  have hlen : ([x, y] : List S29).length = 2 := rfl
  rw [hlen]
  go_wp2
  go_ret
  exact ⟨rfl, HF.out.alloc HF.out.size _⟩
end Go.Proofs.YtgaboenipiojoaaGreatDoor.QAll
end

section
/- The law CmdNames, walked by hand. -/
set_option linter.unusedVariables false
set_option linter.unusedSimpArgs false
namespace Go.Proofs.YtgaboenipiojoaaGreatDoor.QAll
open Go.RowKit Go.Proofs.YtgaboenipiojoaaGreatDoorW.PrintWords Go.Proofs.YtgaboenipiojoaaGreatDoorW.PrintLast Go.Proofs.YtgaboenipiojoaaGreatDoorW.PrintMore
theorem inf9 : ∃ ie, Tryz.prog.info? 9 = some ie ∧ ie.size = 1 ∧ ie.zero = some (.string ⟨#[]⟩) := by
 have h : (Tryz.prog.info? 9).map (fun i => (i.size, i.zero)) = some (1, some (.string ⟨#[]⟩)) := by kernel_rfl
 obtain ⟨ie, h1, h2⟩ := Option.map_eq_some_iff.1 h
 injection h2 with h3 h4
 exact ⟨ie, h1, h3, h4⟩
set_option maxHeartbeats 2000000 in
set_option maxRecDepth 100000 in
theorem names25_calls (w : World) : Calls Tryz.prog 9 #[] w fun e w' => e = .returned (.slice (some ⟨w.heap.size, 0, none⟩) 20 20) ∧ w' = w.alloc (.cells namesV 9) := by
 obtain ⟨ie, h1, h2, h3⟩ := inf9
 go_enter Tryz.func9, Tryz.ntmps9
 go_wp2_with (refine wpList_buildSlice rfl 24 9 20 _ rfl namesV ie _ Tryz.underlying24 h1 h3 (by rw [h2]; decide) (by rw [h2]; decide) (by rw [h2]; kernel_rfl) ?_)
 go_ret
 exact ⟨rfl, rfl⟩
/-- The block r turned to another object. -/
def mset (W : World) (r : Nat) (o : Obj) : World := { W with heap := W.heap.setIfInBounds r o }
theorem mset_new (w : World) (o o' : Obj) : mset (w.alloc o) w.heap.size o' = w.alloc o' := by
 unfold mset World.alloc
 congr 1
 apply Array.ext'
 simp [Array.toList_setIfInBounds, List.set_append_right]
set_option maxRecDepth 100000 in
theorem map_put (W : World) (mty et r clk : Nat) (es : Array MapEntry) (k : Int) (v : Value) (hm : Tryz.prog.underlying mty = some (.map 3 et)) (hb : W.heap[r]? = some (.map es clk)) (hn : Instr.findNow (.int .i64) (.int .i64 k) es.toList 0 = some none) :
  (Instr.mapUpdate mty (.map (some r)) (.int .i64 k) v).run Tryz.prog W = .ok () (mset W r (.map (es.push { key := .int .i64 k, val := v, born := clk }) (clk + 1))) := by
 unfold Instr.mapUpdate
 rw [Sem.run_bind, run_underlying hm]
 simp only [Result.andThen_ok, Sem.run_bind, MapKept.run_getObj_map hb, MapKept.run_checkKey Tryz.underlying3 (k := .int .i64 k) (rfl : IntKind.i64 = IntKind.i64) _ 9999, MapKept.run_findKey Tryz.underlying3 hn, MapKept.run_setObj_map _ hb]
 rfl
set_option maxRecDepth 100000 in
theorem map_get (W : World) (mty et r clk : Nat) (es : Array MapEntry) (k : Int) (v : Value) (i : Nat) (hm : Tryz.prog.underlying mty = some (.map 3 et)) (hb : W.heap[r]? = some (.map es clk)) (hn : Instr.findNow (.int .i64) (.int .i64 k) es.toList 0 = some (some (i, v))) :
  (Instr.lookup mty (.map (some r)) (.int .i64 k) false).run Tryz.prog W = .ok v W := by
 unfold Instr.lookup
 rw [Sem.run_bind, run_underlying hm]
 simp only [Result.andThen_ok, Sem.run_bind, Sem.run_pure, MapKept.run_getObj_map hb, MapKept.run_checkKey Tryz.underlying3 (k := .int .i64 k) (rfl : IntKind.i64 = IntKind.i64) _ 9999, MapKept.run_findKey Tryz.underlying3 hn]
 rfl
set_option maxRecDepth 100000 in
theorem map_miss (W : World) (mty et r clk : Nat) (es : Array MapEntry) (k : Int) (z : Value) (hm : Tryz.prog.underlying mty = some (.map 3 et)) (hz : (zeroValue et).run Tryz.prog W = .ok z W) (hb : W.heap[r]? = some (.map es clk)) (hn : Instr.findNow (.int .i64) (.int .i64 k) es.toList 0 = some none) :
  (Instr.lookup mty (.map (some r)) (.int .i64 k) false).run Tryz.prog W = .ok z W := by
 unfold Instr.lookup
 rw [Sem.run_bind, run_underlying hm]
 simp only [Result.andThen_ok, Sem.run_bind, Sem.run_pure, MapKept.run_getObj_map hb, MapKept.run_checkKey Tryz.underlying3 (k := .int .i64 k) (rfl : IntKind.i64 = IntKind.i64) _ 9999, MapKept.run_findKey Tryz.underlying3 hn, hz]
 rfl
def tailB (k : Nat) : ByteArray := ⟨(Pure.tailN k).toArray⟩
/-- The numbers that have a tail. -/
def tailK : List Nat := [1, 5, 6, 9, 10, 11, 12, 13, 15, 16, 17]
def tabE (n : Nat) : Array MapEntry := ((tailK.take n).zipIdx.map fun x => ({ key := .int .i64 x.1, val := .string (tailB x.1), born := x.2 } : MapEntry)).toArray
theorem tab_put (n : Nat) (k : Int) (s : ByteArray) (hp : (tabE n).push { key := .int .i64 k, val := .string s, born := n } = tabE (n + 1)) (hn : Instr.findNow (.int .i64) (.int .i64 k) (tabE n).toList 0 = some none) (w : World) :
  (Instr.mapUpdate 27 (.map (some w.heap.size)) (.int .i64 k) (.string s)).run Tryz.prog (w.alloc (.map (tabE n) n)) = .ok () (w.alloc (.map (tabE (n + 1)) (n + 1))) := by
 rw [map_put (w.alloc (.map (tabE n) n)) 27 9 w.heap.size n (tabE n) k (.string s) Tryz.underlying27 (heap_alloc_new w _) hn, mset_new, hp]
def tabOk (f : Nat) : Bool := match Instr.findNow (.int .i64) (.int .i64 f) (tabE 11).toList 0 with
 | some (some (_, .string s)) => s.data.toList == Pure.tailN f
 | some none => Pure.tailN f == []
 | _ => false
theorem tab_ok : ((List.range 21).all tabOk) = true := by kernel_rfl
theorem tab_get (f : Nat) (hf : f < 21) (w : World) : (Instr.lookup 27 (.map (some w.heap.size)) (.int .i64 f) false).run Tryz.prog (w.alloc (.map (tabE 11) 11)) = .ok (.string (tailB f)) (w.alloc (.map (tabE 11) 11)) := by
 have h := List.all_eq_true.1 tab_ok f (List.mem_range.2 hf)
 unfold tabOk at h
 split at h
 ·rename_i s hs
  have e : s = tailB f := by
   unfold tailB
   rw [← eq_of_beq h]
  rw [← e]
  exact map_get _ 27 9 _ 11 (tabE 11) f _ _ Tryz.underlying27 (heap_alloc_new w _) hs
 ·rename_i hs
  have e : tailB f = ⟨#[]⟩ := by
   unfold tailB
   rw [eq_of_beq h]
  rw [e]
  exact map_miss _ 27 9 _ 11 (tabE 11) f _ Tryz.underlying27 (Tryz.zeroValue9 _) (heap_alloc_new w _) hs
 ·cases h
def wOf (k j : Nat) : Pure.L8 := (Pure.namesN.getD k []).take (j + 1)
def firstOf (k j : Nat) : Nat := Pure.firstGo (wOf k j) Pure.namesN 1
theorem low_ok : ((List.range 20).all fun k => (List.range (Pure.namesN.getD k []).length).all fun j => Lib.toLowerA (wOf k j) == (wOf k j).map Pure.lowC && (wOf k j).all (fun c => decide (c.toNat < 128)) && decide (firstOf k j < 21) && decide ((wOf k j).length = j + 1)) = true := by kernel_rfl
theorem len_ok : ((List.range 20).all fun k => decide (1 ≤ (Pure.namesN.getD k []).length) && decide ((Pure.namesN.getD k []).length ≤ 10)) = true := by kernel_rfl
/-- What stands of one name, and its beginning. -/
structure NameF (k j : Nat) : Prop where
 low : Lib.toLowerA (wOf k j) = (wOf k j).map Pure.lowC
 asc : ∀ c ∈ wOf k j, c.toNat < 128
 fst : firstOf k j < 21
 len : (wOf k j).length = j + 1
 par : ∃ c, Pure.parseN ((wOf k j).map Pure.lowC ++ Pure.tailN (firstOf k j)) = (c, 0) ∧ c.k = (firstOf k j : Int)
theorem nameF (k j : Nat) (hk : k < 20) (hj : j < (Pure.namesN.getD k []).length) : NameF k j := by
 have h1 := List.all_eq_true.1 low_ok k (List.mem_range.2 hk)
 have h2 := List.all_eq_true.1 h1 j (List.mem_range.2 hj)
 simp only [Bool.and_eq_true, decide_eq_true_eq, List.all_eq_true] at h2
 obtain ⟨⟨⟨a1, a2⟩, a3⟩, a4⟩ := h2
 have h3 := List.all_eq_true.1 Pure.names_ok k (List.mem_range.2 hk)
 have h4 := List.all_eq_true.1 h3 j (List.mem_range.2 hj)
 refine ⟨eq_of_beq a1, a2, a3, a4, ?_⟩
 unfold Pure.nameOk at h4
 have e : Pure.firstGo ((Pure.namesN.getD k []).take (j + 1)) Pure.namesN 1 = firstOf k j := rfl
 have e2 : (Pure.namesN.getD k []).take (j + 1) = wOf k j := rfl
 simp only [e, e2] at h4
 simp only [Bool.and_eq_true, decide_eq_true_eq] at h4
 exact ⟨(Pure.parseN ((wOf k j).map Pure.lowC ++ Pure.tailN (firstOf k j))).1, Prod.ext rfl h4.1, h4.2⟩
def squelchlaw25_CmdNames.f (k : Nat) (a0 a1 : Int) : Option Bool := if 0 ≤ a1 ∧ a1 < 256 then some true else none
set_option maxHeartbeats 8000000 in
set_option maxRecDepth 100000 in
theorem squelchlaw25_CmdNames.calls (k : Nat) (a0 a1 : Int) (r : Bool) (w : World) (hE : EnvW w) (hT_ : r = true) (h : squelchlaw25_CmdNames.f k a0 a1 = some r) :
  Calls Tryz.prog 3 #[.int .i64 a0, .int .u8 a1] w fun e w' => e = .returned (.bool r) ∧ Below w.heap.size w w' := by
 unfold squelchlaw25_CmdNames.f at h
 split at h
 ·rename_i ha
  obtain rfl := Option.some.inj h
  clear h
  obtain ⟨c, rfl⟩ := Int.eq_ofNat_of_zero_le ha.1
  have hc : c < 256 := by omega
  clear ha
  have HE := Aside0.mk hE
  clear hE
  have hu32 := Tryz.underlying32
  have HA := Aside0.mk (awake5_calls w HE.out)
  go_enter Tryz.func3, Tryz.ntmps3
  go_wp2_with (fail)
  refine HA.out.mono ?_
  rintro e w1 ⟨rfl, hb1⟩
  have HB1 := Aside0.mk hb1
  have HN := Aside0.mk (Name_calls a0 w1 (HE.out.below hb1))
  clear hb1 HA
  by_cases hr : 1 ≤ a0 ∧ a0 ≤ 20
  ·obtain ⟨n, rfl⟩ : ∃ n : Nat, a0 = n + 1 := ⟨(a0 - 1).toNat, by omega⟩
   have hn : n < 20 := by omega
   have hn1 : ¬ ((n : Int) + 1 < 1) := by omega
   have hn2 : ¬ (20 < (n : Int) + 1) := by omega
   have e0 : nameK ((n : Int) + 1) = nameB n := by
    unfold nameK
    rw [if_pos hr, show ((n : Int) + 1 - 1).toNat = n by omega]
   rw [e0] at HN
   clear hr e0
   go_wp2_with (fail)
   refine HN.out.mono ?_
   rintro e w2 ⟨rfl, hb2⟩
   have HB2 := Aside0.mk (HB1.out.trans (hb2.mono HB1.out.size))
   clear hb2 HB1 HN
   go_wp2_with (fail)
   refine (names25_calls w2).mono ?_
   rintro e w3 ⟨rfl, hw3⟩
   have HB3 := Aside0.mk (show Below w.heap.size w w3 by rw [hw3]; exact HB2.out.alloc HB2.out.size _)
   have HC3 := Aside0.mk (fun j (hj : j < 20) => (show w3.cell? ⟨w2.heap.size, j, none⟩ = some (.string (nameB j)) by rw [hw3]; exact namesV_cell w2 j hj))
   clear hw3 HB2
   have hc0 := HC3.out n hn
   have hbb : ((nameB n).toList == (nameB n).toList) = true := beq_self_eq_true _
   obtain ⟨L, hL⟩ : ∃ L, (nameB n).size = L := ⟨_, rfl⟩
   have hLn : (Pure.namesN.getD n []).length = L := by rw [← hL]; unfold nameB; simp [ByteArray.size]
   have hl0 := List.all_eq_true.1 len_ok n (List.mem_range.2 hn)
   rw [hLn] at hl0
   simp only [Bool.and_eq_true, decide_eq_true_eq] at hl0
   obtain ⟨hl1, hl2⟩ := hl0
   obtain ⟨j, hj⟩ : ∃ j, c % L = j := ⟨_, rfl⟩
   have hjL : j < L := by rw [← hj]; exact Nat.mod_lt _ (by omega)
   have hmod : ((c : Int)).tmod (L : Int) = (j : Int) := by rw [← hj]; rfl
   have HF := Aside0.mk (nameF n j hn (by rw [hLn]; exact hjL))
   have hL0 : ¬ (L : Int) = 0 := by omega
   clear hLn hj
   go_wp2_with (fail)
   have HWB := Aside0.mk (show ((nameB n).extract 0 (1 + j)).data.toList = wOf n j by
    rw [ext_list]
    unfold wOf nameB
    rw [List.drop_zero, Nat.add_comm])
   have hwz : ((nameB n).extract 0 (1 + j)).size ≤ 10 := by
    have h1 : ((nameB n).extract 0 (1 + j)).data.toList.length = j + 1 := by rw [HWB.out]; exact HF.out.len
    have h2 : ((nameB n).extract 0 (1 + j)).size = j + 1 := by rw [← h1, Array.length_toList]; rfl
    omega
   generalize (nameB n).extract 0 (1 + j) = wB at HWB hwz ⊢
   clear hbb hc0 hmod hL hL0
   go_loopw [8, 9] (fun v8 v9 wr => ∃ m : Nat, m ≤ 20 ∧ v9 = .int .i64 ((m : Int) - 1) ∧ v8 = .int .i64 ((Pure.firstGo (wOf n j) (Pure.namesN.drop m) (m + 1) : Nat) : Int) ∧ wr = w3) (fun v8 v9 _ => (intOf v9 + 1).toNat)
   case atStart => exact ⟨20, Nat.le_refl _, rfl, rfl, rfl⟩
   case round =>
    obtain ⟨m, hm, rfl, rfl, rfl⟩ := hrel
    cases m with
    | zero =>
     have e : Pure.firstGo (wOf n j) (Pure.namesN.drop 0) (0 + 1) = firstOf n j := rfl
     rw [e]
     clear e
     obtain ⟨f, hf⟩ : ∃ f, firstOf n j = f := ⟨_, rfl⟩
     have hf21 := HF.out.fst
     rw [hf] at hf21 ⊢
     have hmk : (Instr.makeMap 27 none).run Tryz.prog wr = .ok (.map (some wr.heap.size)) (wr.alloc (.map (tabE 0) 0)) := run_makeMap 27 wr
     have p0 := tab_put 0 1 ⟨#[32, 97]⟩ rfl (by kernel_rfl) wr
     have p1 := tab_put 1 5 ⟨#[32, 97]⟩ rfl (by kernel_rfl) wr
     have p2 := tab_put 2 6 ⟨#[32, 111, 102, 102]⟩ rfl (by kernel_rfl) wr
     have p3 := tab_put 3 9 ⟨#[32, 54, 52]⟩ rfl (by kernel_rfl) wr
     have p4 := tab_put 4 10 ⟨#[32, 52]⟩ rfl (by kernel_rfl) wr
     have p5 := tab_put 5 11 ⟨#[32, 50, 48]⟩ rfl (by kernel_rfl) wr
     have p6 := tab_put 6 12 ⟨#[32, 53]⟩ rfl (by kernel_rfl) wr
     have p7 := tab_put 7 13 ⟨#[32, 120]⟩ rfl (by kernel_rfl) wr
     have p8 := tab_put 8 15 ⟨#[32, 111, 110]⟩ rfl (by kernel_rfl) wr
     have p9 := tab_put 9 16 ⟨#[32, 49]⟩ rfl (by kernel_rfl) wr
     have p10 := tab_put 10 17 ⟨#[32, 111, 102, 102]⟩ rfl (by kernel_rfl) wr
     have pg := tab_get f hf21 wr
     have hasc : ∀ (i : Nat) (b : UInt8), wB.data.toList[i]? = some b → b.toNat < 128 := fun i b hb => HF.out.asc b (by rw [← HWB.out]; exact List.mem_of_getElem? hb)
     have HL := Aside0.mk (fun W => Tryz.strings_ToLower_ascii wB W (by omega) hasc)
     clear hasc
     have hlw : Lib.toLowerA wB.data.toList = (wOf n j).map Pure.lowC := by rw [HWB.out]; exact HF.out.low
     rw [hlw] at HL
     go_wp2_with (fail)
     refine (HL.out _).mono ?_
     rintro e w4 ⟨rfl, hb4⟩
     have HB4 := Aside0.mk (show Below w.heap.size w w4 from below_then (HB3.out.alloc HB3.out.size (.map (tabE 11) 11)) (below_size (HB3.out.alloc HB3.out.size (.map (tabE 11) 11))) hb4)
     have HE4 := Aside0.mk (HE.out.below HB4.out)
     obtain ⟨cm, hcm, hck⟩ := HF.out.par
     rw [hf] at hcm hck
     obtain ⟨ck, cn, ⟨cb, css⟩, cv, ct⟩ := cm
     obtain rfl : ck = (f : Int) := hck
     obtain ⟨sB, hsB⟩ : ∃ sB, (⟨((wOf n j).map Pure.lowC).toArray⟩ : ByteArray) ++ tailB f = sB := ⟨_, rfl⟩
     have hsl : sB.data.toList = (wOf n j).map Pure.lowC ++ Pure.tailN f := by rw [← hsB]; simp [tailB]
     have ht1 : (tailB f).size ≤ 10 := by
      have h3 : (Pure.tailN f).length ≤ 10 := by
       unfold Pure.tailN
       repeat' split
       all_goals decide
      have h4 : (tailB f).size = (Pure.tailN f).length := by unfold tailB; show (Pure.tailN f).toArray.size = _; rw [List.size_toArray]
      omega
     have hw1 : (wOf n j).length ≤ 20 := by have := HF.out.len; omega
     have hsz : sB.size ≤ 1000000 := by
      have h1 : sB.size = sB.data.toList.length := by rw [Array.length_toList]; rfl
      have h4 : (tailB f).size = (Pure.tailN f).length := by unfold tailB; show (Pure.tailN f).toArray.size = _; rw [List.size_toArray]
      rw [h1, hsl, List.length_append, List.length_map]
      omega
     have HP := Aside0.mk (parse_at sB hsz f cn cb css cv ct 0 (by rw [hsl]; exact hcm) w4 HE4.out)
     clear hcm hsl hsz hb4 HL hlw p0 p1 p2 p3 p4 p5 p6 p7 p8 p9 p10 pg hmk HB3 HE4
     go_wp2_with (fail)
     refine HP.out.mono ?_
     rintro e w5 ⟨hb5, l, tx, A, cap, rfl, -, -, -, -⟩
     have HB5 := Aside0.mk (below_then HB4.out HB4.out.size hb5)
     have hff : ((f : Int) == (f : Int)) = true := beq_self_eq_true _
     clear hb5 HB4 HP hsB
     go_wp2
     go_ret
     exact ⟨rfl, HB5.out.alloc HB5.out.size _⟩
    | succ q =>
     have hcell := HC3.out q (by omega)
     have hi : ((q + 1 : Nat) : Int) - 1 = (q : Int) := by omega
     rw [hi]
     have hd : Pure.namesN.drop q = (nameB q).data.toList :: Pure.namesN.drop (q + 1) := by
      rw [List.drop_eq_getElem_cons (show q < Pure.namesN.length from by have : Pure.namesN.length = 20 := rfl; omega)]
      unfold nameB
      rw [List.getD_eq_getElem?_getD, List.getElem?_eq_getElem (show q < Pure.namesN.length from by have : Pure.namesN.length = 20 := rfl; omega)]
      rfl
     have HS := Aside0.mk (show Pure.firstGo (wOf n j) (Pure.namesN.drop q) (q + 1) = if Lib.hasPrefix (nameB q).data.toList wB.data.toList = true then q + 1 else Pure.firstGo (wOf n j) (Pure.namesN.drop (q + 1)) (q + 1 + 1) by
      rw [hd, HWB.out]
      rfl)
     clear hd
     go_wp2_with (fail)
     refine (Tryz.strings_HasPrefix (nameB q) wB _).mono ?_
     rintro e w4 ⟨rfl, rfl⟩
     cases hp : Lib.hasPrefix (nameB q).data.toList wB.data.toList with
     | true =>
      have HX := Aside0.mk (show Pure.firstGo (wOf n j) (Pure.namesN.drop q) (q + 1) = q + 1 by rw [HS.out, hp]; rfl)
      clear hp
      go_wp2_with (fail)
      go_roundw
      case rel => exact ⟨q, by omega, rfl, by rw [HX.out]; rfl, trivial⟩
      case measure => simp [intOf] <;> omega
     | false =>
      have HX := Aside0.mk (show Pure.firstGo (wOf n j) (Pure.namesN.drop q) (q + 1) = Pure.firstGo (wOf n j) (Pure.namesN.drop (q + 1)) (q + 1 + 1) by rw [HS.out, hp]; rfl)
      clear hp
      go_wp2_with (fail)
      go_roundw
      case rel => exact ⟨q, by omega, rfl, by rw [HX.out], trivial⟩
      case measure => simp [intOf] <;> omega
  ·have e0 : nameK a0 = ⟨#[]⟩ := by
    unfold nameK
    rw [if_neg hr]
   rw [e0] at HN
   clear e0
   by_cases h1 : a0 < 1
   ·clear hr
    go_wp2_with (fail)
    refine HN.out.mono ?_
    rintro e w2 ⟨rfl, hb2⟩
    have HB2 := Aside0.mk (HB1.out.trans (hb2.mono HB1.out.size))
    clear hb2 HB1 HN
    go_wp2
    go_ret
    exact ⟨rfl, HB2.out⟩
   ·have h2 : 20 < a0 := by omega
    clear hr
    go_wp2_with (fail)
    refine HN.out.mono ?_
    rintro e w2 ⟨rfl, hb2⟩
    have HB2 := Aside0.mk (HB1.out.trans (hb2.mono HB1.out.size))
    clear hb2 HB1 HN
    go_wp2
    go_ret
    exact ⟨rfl, HB2.out⟩
 ·cases h
end Go.Proofs.YtgaboenipiojoaaGreatDoor.QAll
end

section
/- The plain law of CmdNames. -/
namespace Go.Proofs.YtgaboenipiojoaaGreatDoor.Pure
open Go.Proofs.YtgaboenipiojoaaGreatDoor.QAll
theorem CmdNames : ∀ (a0 a1 : Int), (Lit.int .i64 a0).wf = true → (Lit.int .u8 a1).wf = true → ∃ k, squelchlaw25_CmdNames.f k a0 a1 = some true := fun a0 a1 _ h => by
  have h' : decide (IntKind.u8.min ≤ a1) && decide (a1 ≤ IntKind.u8.max) = true := by simpa [Lit.wf] using h
  simp [IntKind.min, IntKind.max, IntKind.signed, IntKind.bits] at h'
  exact ⟨0, by unfold squelchlaw25_CmdNames.f; rw [if_pos (by omega)]⟩
end Go.Proofs.YtgaboenipiojoaaGreatDoor.Pure
end

section
/- From a row's listed variables, and the world's shape, to what the walks ask of the package's variables; and the wrap of a row that hands on both. -/
set_option linter.unusedVariables false
namespace Go.Proofs.YtgaboenipiojoaaGreatDoor.QAll
open Go.RowKit Go.Lib

theorem lz1 : Tryz.prog.globalNamed "strconv.ErrSyntax" = some 7 := by kernel_rfl
theorem lz2 : Tryz.prog.globalNamed "strconv.ErrRange" = some 8 := by kernel_rfl
theorem lz3 : Tryz.prog.globalNamed "internal/strconv.uint64pow10" = some 6 := by kernel_rfl
theorem lzt1 : (Tryz.prog.globals[7]?).map (·.type) = some 74 := by kernel_rfl
theorem lzt2 : (Tryz.prog.globals[8]?).map (·.type) = some 74 := by kernel_rfl
theorem lzt3 : (Tryz.prog.globals[6]?).map (·.type) = some 198 := by kernel_rfl
theorem lzu109 : Tryz.prog.underlying 74 = some (.interface #[("Error", 78)]) := by kernel_rfl
theorem tab_of_reads {W : World} {name : String} {k : IntKind} {zs : List Int} {g : Nat} {t e : TypeId} {n : Nat}
    (hg : Tryz.prog.globalNamed name = some g) (hty : (Tryz.prog.globals[g]?).map (·.type) = some t) (ht : Tryz.prog.underlying t = some (.array n e)) (he : Tryz.prog.underlying e = some (.int k)) (hce : Tryz.prog.cellsOf e = 1) (hct : Tryz.prog.cellsOf t = n)
    (h : VarReads Tryz.prog W name (tabData k zs)) : TabIs Tryz.prog W name k zs := by
  obtain ⟨g', t', cs, fuel, p, hg', ht', hvar, hd⟩ := h
  obtain rfl := Option.some.inj (hg.symm.trans hg')
  obtain rfl := Option.some.inj (hty.symm.trans ht')
  unfold TabIs
  rw [hvar, ← cells_of_tab ht he hce hct hd]
theorem err_of_reads {W : World} {name : String} {g : Nat} {nm : String} {d : DataW Unit}
    (hg : Tryz.prog.globalNamed name = some g) (hty : (Tryz.prog.globals[g]?).map (·.type) = some 74)
    (h : VarReads Tryz.prog W name (.iface nm d)) : ∃ ev, W.cell? ⟨g, 0, none⟩ = some ev ∧ (ev = .nilIface ∨ ∃ te pe, ev = .iface te pe) := by
  obtain ⟨g', t', cs, fuel, p, hg', ht', hvar, hd⟩ := h
  obtain rfl := Option.some.inj (hg.symm.trans hg')
  obtain rfl := Option.some.inj (hty.symm.trans ht')
  obtain ⟨fuel', u, v, hcs, _, _⟩ := iface_of_trod lzu109 hd
  refine ⟨.iface u v, ?_, Or.inr ⟨u, v, rfl⟩⟩
  have e : cs = #[.iface u v] := by apply Array.ext'; simpa using hcs
  subst e
  simpa using World.var?_cell hg hvar 0
theorem maxLen_shaped {W : World} (h : W.ShapedOpen Tryz.prog) : ∃ m, W.cell? ⟨3, 0, none⟩ = some (.int .i64 m) :=
  cell_of_shapedOpen_int (t := 3) (zero := #[.int .i64 0]) h (of_decide_eq_true (by kernel_rfl)) (by kernel_rfl) rfl (by kernel_rfl) (by kernel_rfl) Tryz.underlying3
def u8ren : Go.Shelf.Ren := ⟨fun n => n, fun | 5 => 5 | 119 => 131 | 138 => 166 | 139 => 167 | n => n, fun | 3 => 4 | 4 => 5 | n => n⟩
theorem u8types : U8Types Tryz.prog u8ren := ⟨by kernel_rfl, by kernel_rfl, by kernel_rfl, by kernel_rfl⟩
theorem u8extra : U8Extra Tryz.prog u8ren := ⟨by kernel_rfl, by kernel_rfl, by kernel_rfl, by kernel_rfl, by kernel_rfl, by kernel_rfl, by kernel_rfl⟩
theorem lz4 : Tryz.prog.globalNamed "strings.asciiSpace" = some 0 := by kernel_rfl
theorem lzt4 : (Tryz.prog.globals[0]?).map (·.type) = some 131 := by kernel_rfl
theorem first_same : (Rows.laid_unicode_utf8_first : DataW Unit) = firstData := by kernel_rfl
theorem accept_same : (Rows.laid_unicode_utf8_acceptRanges : DataW Unit) = acceptData := by kernel_rfl
theorem space_same : (Rows.laid_strings_asciiSpace : DataW Unit) = tabData .u8 Lib.asciiSpaceTab := by kernel_rfl
theorem env_of_laid {W : World} {l : List (String × DataW Unit)} (hsh : W.ShapedOpen Tryz.prog) (hL : laidMet Tryz.prog l W)
    (h1 : ("internal/strconv.uint64pow10", Rows.laid_internal_strconv_uint64pow10) ∈ l) (h2 : ("strconv.ErrRange", Rows.laid_strconv_ErrRange) ∈ l) (h3 : ("strconv.ErrSyntax", Rows.laid_strconv_ErrSyntax) ∈ l)
    (h4 : ("unicode/utf8.first", Rows.laid_unicode_utf8_first) ∈ l) (h5 : ("unicode/utf8.acceptRanges", Rows.laid_unicode_utf8_acceptRanges) ∈ l) (h6 : ("strings.asciiSpace", Rows.laid_strings_asciiSpace) ∈ l) : EnvW W := by
  refine ⟨maxLen_shaped hsh, err_of_reads lz1 lzt1 (laidMet.reads hL h3), err_of_reads lz2 lzt2 (laidMet.reads hL h2), ?_, ?_, ?_⟩
  · exact tab_of_reads (t := 198) (zs := Lib.pow10Tab) lz3 lzt3 Tryz.underlying198 Tryz.underlying121 (by kernel_rfl) (by kernel_rfl) (laidMet.reads hL h1)
  · have a := laidMet.reads hL h4
    have b := laidMet.reads hL h5
    rw [first_same] at a
    rw [accept_same] at b
    exact utf8Tabs_of_readsT u8types u8extra a b
  · have c := laidMet.reads hL h6
    rw [space_same] at c
    exact tab_of_reads (t := 131) (zs := Lib.asciiSpaceTab) lz4 lzt4 Tryz.underlying131 Tryz.underlying5 (by kernel_rfl) (by kernel_rfl) c

/-- The wrap of a row that lists variables, with the reach, the listed variables and the world's shape handed on. -/
theorem returns_laid_shaped {H : Type} {enc : TypeId × Value → H} {a : Assume} {C : Checked} {os : Os} {f : FuncId} {fn : Func} {s : ChangeSpec} {conds : List PathCond} {apart fresh handsOn again : Bool} {l : List (String × DataW Unit)}
    (own : ownKnob C.prog.godebug = none) (started : os.Started) (noInit : C.prog.inits.idxOf? f = none) (hfn : C.prog.funcs[f]? = some fn)
    (witness : ∃ (w : World) (tape : Tape) (i : Input), w.os = os ∧ (w.forCall tape i).Shaped C.prog ∧ i.vars = [] ∧ Input.okWide C.prog (w.forCall tape i) .any w.heap.size f i ∧
      ((s.pre enc C.prog fn conds apart (w.forCall tape i).memory i.args ∧ laidMetH C.prog l (w.forCall tape i).memory) ∧ sizedMet enc C.prog fn (OpenSpec.ofChange s) apart (w.forCall tape i).memory i.args) ∧ a.holds C.prog (lone (Frame.enter C.prog f i.args .normal) [] (w.forCall tape i)))
    (contract : ∀ (W : World) (base : Nat) (args : Array Value) (ds gs : List (DataW H)) (before : List MemPlace),
      (∀ (j : Nat) t v, fn.params[j]? = some t → args[j]? = some v → Value.okWide C.prog W .any base t v) →
      DataW.Whole enc C.prog fn.params.toList s.vars apart W args.toList ds gs before →
      conds.all (PathCond.test C.prog ⟨fn.params.toList, ds, s.plain.varTypes C.prog, gs⟩) = true →
      (DataW.weightsEach C.prog (fn.params.toList ++ s.plain.varTypes C.prog) (ds ++ gs)).all (· ≤ reachBytes) = true → laidMetH C.prog l W → W.ShapedOpen C.prog →
      Calls C.prog f args W fun e W' => ∃ v, e = .returned v ∧ s.post enc C.prog fn apart fresh handsOn again W args v W') :
    ReturnsInHanded a C os f .any (fun w args => (s.pre enc C.prog fn conds apart w args ∧ laidMetH C.prog l w) ∧ sizedMet enc C.prog fn (OpenSpec.ofChange s) apart w args) (s.post enc C.prog fn apart fresh handsOn again) := by
  refine returnsInHanded_of_calls own started noInit witness ?_
  intro w tape i _ hsh _ hok hpre hholds
  obtain ⟨_, _, _, fn', hfn', _, _, _, _, hval⟩ := hok
  have e : fn' = fn := Option.some.inj (hfn'.symm.trans hfn)
  subst e
  obtain ⟨⟨⟨ds, gs, before, hw, hc⟩, hx⟩, hz⟩ := hpre
  have hw' := DataW.Whole.of_heap (w' := w.forCall tape i) (by rfl) hw
  refine (contract (w.forCall tape i) w.heap.size i.args ds gs before hval hw' hc (hz.weights hw) (laidMetH.of_heap (by rfl) hx) hsh).mono fun e W' ⟨v, he, hp⟩ => ?_
  subst he
  exact ChangeSpec.post_blind hp
end Go.Proofs.YtgaboenipiojoaaGreatDoor.QAll
end

section
/- The statement that the law squelchlaw25.CmdNames is true of every input, its arguments left as they were: the row, out of its walk and its plain law. Written by a program of this session (wip/pp/row.py). -/
namespace Go.Proofs.YtgaboenipiojoaaGreatDoor.cmdNamesRow
open Go.ChangeShapes Go.WideShapes Go.ChangeAt Go.RowKit
open Go.ChangeMaps (open_string shut_string)
set_option linter.unusedVariables false
set_option linter.unusedSimpArgs false
theorem own : ownKnob Tryz.prog.godebug = none := by kernel_rfl
theorem laidOut : laidOutB Tryz.prog = true := by kernel_rfl
theorem met (os : Os) (args : Array Value) : laidMetH Tryz.prog Rows.cmdNamesRow.laid ((World.laidAll Tryz.prog os Rows.cmdNamesRow.laid).forCall (fun _ _ => 0) ⟨#[], args, []⟩).memory :=
  (show laidMet Tryz.prog Rows.cmdNamesRow.laid _ from laidMet_laidAll _ (by kernel_rfl) (by kernel_rfl))
set_option maxRecDepth 100000 in
theorem lifted (os : Os) (started : os.Started) (H : Type) (enc : TypeId × Value → H) :
    ReturnsInHanded {} Tryz.checked os 3 .any (fun w args => (Rows.cmdNamesSpec.pre enc Tryz.prog Tryz.f3 Rows.cmdNamesRow.domain false w args ∧ laidMetH Tryz.prog Rows.cmdNamesRow.laid w) ∧ sizedMet enc Tryz.prog Tryz.f3 (OpenSpec.ofChange Rows.cmdNamesSpec) false w args) (Rows.cmdNamesSpec.post enc Tryz.prog Tryz.f3 false true false false) := by
  refine QAll.returns_laid_shaped (C := Tryz.checked) own started (by kernel_rfl) Tryz.func3
    (ChangeSpec.witness_shaped (enc := enc) (C := Tryz.checked) (os := os) (X := fun w _ => laidMetH Tryz.prog Rows.cmdNamesRow.laid w) false (World.laidAll Tryz.prog os Rows.cmdNamesRow.laid) #[.int .i64 0, .int .u8 0] 8 (World.laidAll_os _ _ _) (World.shaped_of_ZipB (by kernel_rfl) (by kernel_rfl)) (by kernel_rfl) (by kernel_rfl) (by kernel_rfl) (met os _)) ?_
  intro W base args ds gs before hval0 hW hcnd hsz0 hL hsh
  have hE : QAll.EnvW W := QAll.env_of_laid hsh (show laidMet Tryz.prog Rows.cmdNamesRow.laid W from hL) (by simp [Rows.cmdNamesRow]) (by simp [Rows.cmdNamesRow]) (by simp [Rows.cmdNamesRow]) (by simp [Rows.cmdNamesRow]) (by simp [Rows.cmdNamesRow]) (by simp [Rows.cmdNamesRow])
  have hsz : (DataW.weightsEach Tryz.prog (Tryz.f3.params.toList ++ Rows.cmdNamesSpec.plain.varTypes Tryz.prog) (ds ++ gs)).all (· ≤ reachBytes) = true := hsz0
  have hval : ∀ (j : Nat) t v, Tryz.f3.params[j]? = some t → args[j]? = some v → Value.okWide Tryz.prog W .any base t v := hval0
  have hW' := hW
  obtain ⟨p, q, hA0, hV, rfl, hfz, hnd⟩ := hW
  have hA : DataW.TrodAll enc Tryz.prog W 0 (fun _ => true) true Tryz.f3.params.toList args.toList ds p := hA0
  rw [Tryz.params3] at hA hval hsz
  obtain ⟨v0, vs0, d0, ds0, p0, q0, hargs, rfl, rfl, h0, r0⟩ := trodAll_cons hA
  obtain ⟨v1, vs1, d1, ds1, p1, q1, rfl, rfl, rfl, h1, r1⟩ := trodAll_cons r0
  obtain ⟨rfl, rfl, rfl⟩ := trodAll_nil r1
  obtain rfl : args = #[v0, v1] := by cases args; simp_all
  obtain ⟨rfl, rfl⟩ := trodVars_none hV
  have k0 := h0
  have lt0 : ∀ x ∈ p0, x.block < W.heap.size := by obtain ⟨m, hm⟩ := k0; exact DataW.trod_lt m _ _ _ hm
  obtain ⟨a0, rfl, rfl, rfl, wa0⟩ := open_int Tryz.underlying3 (hval 0 3 v0 rfl rfl) h0
  have k1 := h1
  have lt1 : ∀ x ∈ p1, x.block < W.heap.size := by obtain ⟨m, hm⟩ := k1; exact DataW.trod_lt m _ _ _ hm
  obtain ⟨a1, rfl, rfl, rfl, wa1⟩ := open_int Tryz.underlying5 (hval 1 5 v1 rfl rfl) h1
  clear hA0 hval0 hsz0 hsz
  obtain ⟨k, hp⟩ := Pure.CmdNames a0 a1 wa0 wa1
  refine (QAll.squelchlaw25_CmdNames.calls k a0 a1 true W hE rfl hp).mono fun e W' ⟨he, bel⟩ => ?_
  subst he
  exact ⟨_, rfl, _, _, _, [], _, [], hW', trodAll_mk1 (shut_bool Tryz.underlying4 _), (trodAll_cons_mk (Below.trod laidOut (by kernel_rfl) (of_decide_eq_true (by kernel_rfl)) k0 bel lt0) (trodAll_cons_mk (Below.trod laidOut (by kernel_rfl) (of_decide_eq_true (by kernel_rfl)) k1 bel lt1) trodAll_mk0)), rfl, bel.frame _, fun h => by cases h⟩
theorem over : Rows.cmdNamesRow.holds Tryz.pinned (OpenSpec.ofChange Rows.cmdNamesSpec) :=
  OpenClaim.holds_of_wide 3 Tryz.f3 rfl rfl rfl rfl rfl rfl rfl ⟨rfl, rfl, rfl, rfl, rfl⟩ rfl rfl rfl rfl rfl (by kernel_rfl) Tryz.func3 (by kernel_rfl)
    (of_decide_eq_true (by kernel_rfl)) (by unfold Func.isWrapper; first | (rw [if_pos (by decide +kernel)]; kernel_rfl) | (rw [if_neg (by decide +kernel)]; exact ⟨rfl, rfl⟩))
    (fun os started H enc _ => lifted os started H enc)
theorem card : Rows.CmdNamesCardSaid :=
  Claim7.holds_tied_plain_at .later [] [.data, .data, .data, .data, .sentinel, .sentinel, .listed, .data, .pinned, .pinned] true (true, "0d74bf6dcd223bde804431f584e3ebb3b310f172bf0644cccbcc099a9d7da62b") true
    over (fun _ h => by cases h) (by kernel_rfl) (fun _ h => by cases h) cmdNames_row_tie rfl ⟨rfl, rfl⟩ (by kernel_rfl) rfl
    (fun f fn hf hfn => by
      obtain rfl : f = 3 := Option.some.inj ((show Tryz.prog.funcNamed "squelch/squelchlaw25.CmdNames" = some 3 by kernel_rfl).symm.trans hf) |>.symm
      obtain rfl : fn = Tryz.f3 := (Option.some.inj (Tryz.func3.symm.trans hfn)).symm
      exact ⟨by kernel_rfl, fun j t ht => by
        rw [Tryz.params3] at ht
        have hm := Array.mem_of_getElem? ht
        simp at hm
        rcases hm with rfl | rfl
        · exact (show Tryz.prog.wantsStandIn 3 = false by kernel_rfl)
        · exact (show Tryz.prog.wantsStandIn 5 = false by kernel_rfl)
      ⟩)
    (by kernel_rfl)
end Go.Proofs.YtgaboenipiojoaaGreatDoor.cmdNamesRow
namespace Go.Proofs.YtgaboenipiojoaaGreatDoor
theorem cmdNames_holds : Rows.CmdNamesCardSaid := cmdNamesRow.card
#print axioms cmdNames_holds
end Go.Proofs.YtgaboenipiojoaaGreatDoor
end
