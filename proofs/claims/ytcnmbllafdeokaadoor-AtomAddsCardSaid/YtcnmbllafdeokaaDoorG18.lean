/- Some texts of one seat in one file, in build order. -/
import Derived.Test.YtcnmbllafdeokaaDoorRows
import Derived.Test.YtcnmbllafdeokaaDoorG4
import Derived.ProofKit
import Derived.LaidMore
import Derived.OpenShut
import Derived.Stop.Joined
/- What a row that lists the table of math/bits gives the walks. -/
namespace Go.Proofs.YtcnmbllafdeokaaDoor.H
open Go.ChangeShapes Go.WideShapes Go.ChangeAt Go.RowKit
set_option linter.unusedVariables false
set_option maxRecDepth 100000
theorem gTab : Tryd.prog.globalNamed "math/bits.deBruijn64tab" = some 0 := by kernel_rfl
theorem tTab : (Tryd.prog.globals[0]?).map (·.type) = some 70 := by kernel_rfl
theorem cTab : Tryd.prog.cellsOf 5 = 1 := by kernel_rfl
theorem lTab : (Rows.laid_math_bits_deBruijn64tab : DataW Unit) = .agg ((List.range 64).map fun j => .lit (.int .u8 (Lib.deBruijn64tab.getD j 0 : Nat))) := by rfl
/-- The list that the row lists. -/
theorem tab_of_vars {W : World} {cs : Array Value} {fuel : Nat} {q : List MemPlace} {base : Nat} {sp : Nat → Bool} {enc : TypeId × Value → Unit} {held : Bool} (hv : W.var? Tryd.prog "math/bits.deBruijn64tab" = some cs)
    (hd : DataW.trod enc Tryd.prog W base sp held fuel 70 cs.toList = some (Rows.laid_math_bits_deBruijn64tab, q)) : TabG W := by
  obtain ⟨xs, m, rfl, hx, hlen, hn, hel⟩ := DataW.trod_array Tryd.underlying70 hd
  rw [lTab] at hx
  simp only [Prod.mk.injEq, DataW.agg.injEq] at hx
  intro j hj
  have h1 := hel j hj
  rw [cTab, Nat.mul_one, List.getElem?_eq_getElem (by omega)] at h1
  obtain ⟨n, e1, e2, _⟩ := DataW.trod_int Tryd.underlying5 h1
  have h2 := congrArg (fun l => l[j]?) hx.1
  simp only [List.getElem?_map, List.getElem?_range hj, Option.map_some, List.getElem?_eq_getElem (show j < xs.length by omega), e2] at h2
  injection h2 with h2
  injection h2 with h2
  injection h2 with _ h2
  have h3 := World.var?_cell gTab hv j
  rw [h3, h2]
  have h4 : cs.toList[j]? = some (.int .u8 n) := by
    have := congrArg (fun l => l[0]?) e1
    simpa using this
  simpa using h4
theorem tab_of_laid {W : World} (h : laidMetH Tryd.prog [("math/bits.deBruijn64tab", Rows.laid_math_bits_deBruijn64tab)] W) : TabG W := by
  rw [MakeChecks.laidMetH_plain _ _ _ (by kernel_rfl)] at h
  obtain ⟨ps, ⟨g0, t0, cs0, f0, p0, q0, hg0, ht0, hv0, hd0, _, _⟩, _⟩ := h
  obtain rfl := Option.some.inj (tTab.symm.trans (by
    obtain rfl := Option.some.inj (gTab.symm.trans hg0)
    exact ht0))
  exact tab_of_vars hv0 hd0
end Go.Proofs.YtcnmbllafdeokaaDoor.H
