/- What the walks ask of the package's variables (the two errors of strconv, its table of powers, the search's limit), and that it holds on while nothing that was there is written. -/
import Derived.Test.YtpmieapgbdbabaaDoorQAllx0
import Derived.Test.YtpmieapgbdbabaaDoorHShelf
set_option linter.unusedVariables false
namespace Go.Proofs.YtpmieapgbdbabaaDoor.QAll
open Go.RowKit Go.Proofs.YtpmieapgbdbabaaDoorW.PrintWords Go.Proofs.YtpmieapgbdbabaaDoorW.PrintLast Go.Proofs.YtpmieapgbdbabaaDoorW.PrintMore
structure EnvW (w : World) : Prop where
  mx : ∃ m, w.cell? ⟨0, 0, none⟩ = some (.int .i64 m)
  syn : ∃ ev, w.cell? ⟨1, 0, none⟩ = some ev ∧ (ev = .nilIface ∨ ∃ te pe, ev = .iface te pe)
  rng : ∃ ev, w.cell? ⟨2, 0, none⟩ = some ev ∧ (ev = .nilIface ∨ ∃ te pe, ev = .iface te pe)
  tab : Lib.TabIs Tryd.prog w "internal/strconv.uint64pow10" .u64 Lib.pow10Tab
theorem EnvW.below {w w' : World} (h : EnvW w) (hb : Below w.heap.size w w') : EnvW w' := by
  obtain ⟨⟨m, hm⟩, ⟨ev, hs, hs2⟩, ⟨ev2, hr, hr2⟩, ht⟩ := h
  refine ⟨⟨m, pw_cell_below hb hm⟩, ⟨ev, pw_cell_below hb hs, hs2⟩, ⟨ev2, pw_cell_below hb hr, hr2⟩, ?_⟩
  unfold Lib.TabIs World.var? at ht ⊢
  cases hg : Tryd.prog.globalNamed "internal/strconv.uint64pow10" with
  | none => simp [hg] at ht
  | some g =>
    simp only [hg, Option.bind_some] at ht ⊢
    have hlt : g < w.heap.size := by
      rcases Nat.lt_or_ge g w.heap.size with h' | h'
      · exact h'
      · simp [Array.getElem?_eq_none h'] at ht
    rw [hb.block g hlt]
    exact ht
theorem EnvW.drawn {w w' : World} (h : EnvW w) (hb : Drawn0 w w') : EnvW w' := h.below hb.below
end Go.Proofs.YtpmieapgbdbabaaDoor.QAll
