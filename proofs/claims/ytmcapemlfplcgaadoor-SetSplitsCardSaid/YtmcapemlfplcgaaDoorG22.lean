/- Some texts of one seat in one file, in build order. -/
import Derived.Test.YtmcapemlfplcgaaDoorRows
import Derived.Test.YtmcapemlfplcgaaDoorG7
import Derived.ProofKit
import Derived.LaidMore
import Derived.OpenShut
import Derived.Stop.Joined
/- What a row of folder 02 gives the walks: the table of math/bits, the errors of strconv. -/
namespace Go.Proofs.YtmcapemlfplcgaaDoor.H
open Go.ChangeShapes Go.WideShapes Go.ChangeAt Go.RowKit
set_option linter.unusedVariables false
set_option maxRecDepth 100000
theorem gTab : Tryd.prog.globalNamed "math/bits.deBruijn64tab" = some 0 := by kernel_rfl
theorem tTab : (Tryd.prog.globals[0]?).map (·.type) = some 99 := by kernel_rfl
theorem cTab : Tryd.prog.cellsOf 5 = 1 := by kernel_rfl
theorem lTab : (Rows.laid_math_bits_deBruijn64tab : DataW Unit) = .agg ((List.range 64).map fun j => .lit (.int .u8 (Lib.deBruijn64tab.getD j 0 : Nat))) := by rfl
/-- The list that the row lists. -/
theorem tab_of_vars {W : World} {cs : Array Value} {fuel : Nat} {q : List MemPlace} {base : Nat} {sp : Nat → Bool} {enc : TypeId × Value → Unit} {held : Bool} (hv : W.var? Tryd.prog "math/bits.deBruijn64tab" = some cs)
    (hd : DataW.trod enc Tryd.prog W base sp held fuel 99 cs.toList = some (Rows.laid_math_bits_deBruijn64tab, q)) : TabG W := by
  obtain ⟨xs, m, rfl, hx, hlen, hn, hel⟩ := DataW.trod_array Tryd.underlying99 hd
  rw [lTab] at hx
  simp only [Prod.mk.injEq, DataW.agg.injEq] at hx
  intro j hj
  have h1 := hel j hj
  rw [cTab, Nat.mul_one, List.getElem?_eq_getElem (by omega)] at h1
  obtain ⟨n, e1, e2, _⟩ := DataW.trod_int Tryd.underlying5 h1
  have h2 := congrArg (fun l => l[j]?) hx.1
  simp only [List.getElem?_map, List.getElem?_range hj, Option.map_some, List.getElem?_eq_getElem (show j < xs.length by omega), e2] at h2
  injection h2 with h2
  injection h2 with h2
  injection h2 with _ h2
  have h3 := World.var?_cell gTab hv j
  rw [h3, h2]
  have h4 : cs.toList[j]? = some (.int .u8 n) := by
    have := congrArg (fun l => l[0]?) e1
    simpa using this
  simpa using h4
theorem err_of_vars {W : World} {n : String} {g t : Nat} {d : DataW Unit} {cs : Array Value} {fuel : Nat} {q : List MemPlace} {base : Nat} {sp : Nat → Bool} {enc : TypeId × Value → Unit} {held : Bool} (hg : Tryd.prog.globalNamed n = some g) (hv : W.var? Tryd.prog n = some cs)
    {u : TypeDesc} (ht : Tryd.prog.underlying t = some u) (hu : (match u with | .interface _ => true | _ => false) = true) (hd : DataW.trod enc Tryd.prog W base sp held fuel t cs.toList = some (d, q)) : ErC g W := by
  have h3 := World.var?_cell hg hv 0
  cases u <;> simp at hu
  have hc : ∃ ev, cs.toList = [ev] ∧ (ev = .nilIface ∨ ∃ te pe, ev = .iface te pe) := by
    cases fuel with
    | zero => unfold DataW.trod at hd; cases hd
    | succ m =>
      unfold DataW.trod at hd
      rw [ht] at hd
      split at hd <;> first | (rename_i h1 h2; exact ⟨_, h2, .inl rfl⟩) | (rename_i h1 h2; exact ⟨_, h2, .inr ⟨_, _, rfl⟩⟩) | simp_all
  obtain ⟨ev, h1, h2⟩ := hc
  refine ⟨ev, ?_, h2⟩
  have h4 : cs.toList[0]? = some ev := by rw [h1]; rfl
  rw [h3]; simpa using h4
theorem tabE_of_laid {W : World} (h : laidMetH Tryd.prog [("math/bits.deBruijn32tab", Rows.laid_math_bits_deBruijn32tab), ("math/bits.deBruijn64tab", Rows.laid_math_bits_deBruijn64tab), ("internal/strconv.uint64pow10", Rows.laid_internal_strconv_uint64pow10), ("unicode/utf8.acceptRanges", Rows.laid_unicode_utf8_acceptRanges), ("strconv.ErrRange", Rows.laid_strconv_ErrRange), ("strconv.ErrSyntax", Rows.laid_strconv_ErrSyntax), ("unicode/utf8.first", Rows.laid_unicode_utf8_first)] W) : TabE W := by
  rw [MakeChecks.laidMetH_plain _ _ _ (by kernel_rfl)] at h
  obtain ⟨ps, ⟨_, _, _, _, _, _, _, _, _, _, ⟨g0, t0, cs0, f0, p0, q0, hg0, ht0, hv0, hd0, ⟨_, _, _, _, _, _, _, _, _, _, ⟨_, _, _, _, _, _, _, _, _, _, ⟨g4, t4, cs4, f4, p4, q4, hg4, ht4, hv4, hd4, ⟨g5, t5, cs5, f5, p5, q5, hg5, ht5, hv5, hd5, _, _⟩, _⟩, _⟩, _⟩, _⟩, _⟩, _⟩ := h
  refine ⟨?_, ?_, ?_⟩
  · obtain rfl := Option.some.inj (tTab.symm.trans (by
      obtain rfl := Option.some.inj (gTab.symm.trans hg0)
      exact ht0))
    exact tab_of_vars hv0 hd0
  · have e1 : Tryd.prog.globalNamed "strconv.ErrSyntax" = some 4 := by kernel_rfl
    obtain rfl := Option.some.inj (e1.symm.trans hg5)
    have e2 : (Tryd.prog.globals[4]?).map (·.type) = some 84 := by kernel_rfl
    obtain rfl := Option.some.inj (e2.symm.trans ht5)
    exact err_of_vars e1 hv5 Tryd.underlying84 rfl hd5
  · have e1 : Tryd.prog.globalNamed "strconv.ErrRange" = some 5 := by kernel_rfl
    obtain rfl := Option.some.inj (e1.symm.trans hg4)
    have e2 : (Tryd.prog.globals[5]?).map (·.type) = some 84 := by kernel_rfl
    obtain rfl := Option.some.inj (e2.symm.trans ht4)
    exact err_of_vars e1 hv4 Tryd.underlying84 rfl hd4
end Go.Proofs.YtmcapemlfplcgaaDoor.H
