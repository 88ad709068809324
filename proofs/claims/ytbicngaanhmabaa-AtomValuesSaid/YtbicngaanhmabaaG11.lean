/- Some texts of one seat in one file, in build order. -/
import Derived.Test.YtbicngaanhmabaaProg
import Derived.Below
import Derived.Deep.Draws
import Derived.Deep.AppendLies
import Derived.Maps.AppendAt
import Derived.OwnWalk
import Derived.Laws.BytesArg
import Derived.Laws.MakeOwn
import Derived.Laws.OwnMore
import Derived.Deep.OwnRows
import Derived.Tactics
import Derived.Lib.ConvBytes
import Derived.Laws.Slices
import Derived.WalkKit
import Derived.KernelRfl
import Derived.RowKit3
import Derived.Deep.LoopGhost
import Derived.Deep.QuietTactic
import Derived.BigQuiet
import Derived.WideLaws
import Derived.Deep.DeepCutAuto
import Derived.Deep.CutBlock
import Derived.Deep.RegionHeld3
import Derived.Laws.Rows
import Derived.Lib.AppendStr
import Derived.ArgAppend
import Derived.Laws.IdiomCopy
import Derived.OrdersHeld
import Derived.Laws.BitsLemmas
import Derived.RowKit
import Derived.Test.YtbicngaanhmabaaG9
import Derived.Test.YtbicngaanhmabaaG10
import Derived.Test.YtbicngaanhmabaaWWords
import Derived.Test.YtbicngaanhmabaaWLast
import Derived.Test.YtbicngaanhmabaaWTab
import Derived.Test.YtbicngaanhmabaaWFour
import Derived.Test.YtbicngaanhmabaaWQPut
import Derived.Test.YtbicngaanhmabaaWApart
import Derived.Test.YtbicngaanhmabaaWArr
import Derived.Test.YtbicngaanhmabaaWZeros
import Derived.Test.YtbicngaanhmabaaWFoot
import Derived.Test.YtbicngaanhmabaaWKept
import Derived.Test.YtbicngaanhmabaaWShare
import Derived.Test.YtbicngaanhmabaaWN
import Derived.Test.YtbicngaanhmabaaWFootNe
import Derived.Test.YtbicngaanhmabaaWAt
import Derived.Test.YtbicngaanhmabaaWEqStruct
import Derived.Test.YtbicngaanhmabaaWRepsOne
import Derived.Test.YtbicngaanhmabaaWInv
import Derived.Test.YtbicngaanhmabaaWInvWords
import Derived.Test.YtbicngaanhmabaaWGuard
import Derived.Test.YtbicngaanhmabaaWNEv
import Derived.Test.YtbicngaanhmabaaWMore
-- PRINTED BY A CHANGED COPY OF THE PRINT (wip/tools/patch_print.py), over contracts by hand
namespace Go.Proofs.Ytbicngaanhmabaa.PAll9
open Go.RowKit Go.Proofs.YtbicngaanhmabaaW.PrintWords Go.Proofs.YtbicngaanhmabaaW.PrintLast Go.Proofs.YtbicngaanhmabaaW.PrintMore
attribute [local go_sem] max2_int min2_int max_two min_two max_three min_three max_four min_four   -- for this text's walks alone
set_option linter.unusedVariables false
set_option linter.unusedSimpArgs false



def errW : Option Int → Value
  | none => .nilIface
  | some c => .iface 0 (.int .i64 c)
theorem errW_none : errW none = .nilIface := rfl
theorem errW_some (c : Int) : errW (some c) = .iface 0 (.int .i64 c) := rfl

theorem info3 : (Try.prog.info? 3).map (fun i => (i.zero, i.size, i.bytes)) = some (some (.int .i64 0), 1, 8) := by kernel_rfl
theorem info26 : (Try.prog.info? 26).map (fun i => (i.zero, i.size, i.bytes)) = some (some (.agg #[(.int .u64 0), (.int .i64 0)]), 2, 16) := by kernel_rfl
-- the values' own types
/-! #### struct type 26 -/
structure S26 where
  f0 : Int
  f1 : Int
def z26 : S26 := ⟨(0 : Int), (0 : Int)⟩
def k26 : Kd S26 := Kd.iso (Kd.pair (Kd.int .u64) (Kd.int .i64)) (fun x : S26 => (x.f0, x.f1))
theorem k26_open {w : World} {x : S26} {cs : List Value} (h : k26.K w x cs) : cs = [.int .u64 x.f0, .int .i64 x.f1] := by
  obtain ⟨_, _, rfl, rfl, rfl⟩ := h
  exact rfl
theorem k26_openM {w : World} {base : Nat} {ok : Nat → Prop} {x : S26} {cs : List Value} (h : k26.M w base ok x cs) : cs = [.int .u64 x.f0, .int .i64 x.f1] := by
  obtain ⟨_, _, rfl, rfl, rfl⟩ := h
  exact rfl
theorem k26_mk (w : World) (x : S26)  : k26.K w x [.int .u64 x.f0, .int .i64 x.f1] := ⟨[.int .u64 x.f0], [.int .i64 x.f1], rfl, rfl, rfl⟩
theorem k26_mkM (w : World) (base : Nat) (ok : Nat → Prop) (x : S26)  : k26.M w base ok x [.int .u64 x.f0, .int .i64 x.f1] := ⟨[.int .u64 x.f0], [.int .i64 x.f1], rfl, rfl, rfl⟩
def rd_T26 (xs : List S26) (i : Int) : S26 := xs.getD i.toNat z26
theorem at_T26 {w : World} {A : Option Addr} {n : Nat} {xs : List S26} (h : Kd.C k26 w A n xs) (i : Int) (h0 : 0 ≤ i) (h1 : i < n) : ∃ ad , A = some ad ∧ w.cell? (ad.add (i.toNat * 2)) = some (.int .u64 (rd_T26 xs i).f0) ∧ w.cell? ⟨(ad.add (i.toNat * 2)).block, (ad.add (i.toNat * 2)).off + 1, none⟩ = some (.int .i64 (rd_T26 xs i).f1) := by
  obtain ⟨ad, c, e, _, hK, hc0⟩ := Kd.C_get h z26 i h0 h1
  have hc : ∀ j u, c[j]? = some u → w.cell? (ad.add (i.toNat * 2 + j)) = some u := hc0
  obtain rfl := k26_open hK
  exact ⟨ad, e, hc 0 _ rfl, by rw [← add_field _ _ 1 (by omega)]; exact hc 1 _ rfl⟩

end Go.Proofs.Ytbicngaanhmabaa.PAll9
-- PRINTED BY A CHANGED COPY OF THE PRINT (wip/tools/patch_print.py), over contracts by hand
namespace Go.Proofs.Ytbicngaanhmabaa.PAll9
open Go.RowKit Go.Proofs.YtbicngaanhmabaaW.PrintWords Go.Proofs.YtbicngaanhmabaaW.PrintLast Go.Proofs.YtbicngaanhmabaaW.PrintMore
attribute [local go_sem] max2_int min2_int max_two min_two max_three min_three max_four min_four   -- for this text's walks alone
set_option linter.unusedVariables false
set_option linter.unusedSimpArgs false

theorem eqA26 (d : Nat) (w : World) (x0 y0 : Int) (x1 y1 : Int) :
    (Op.equalIn (d + 2) 26 (.agg #[.int .u64 x0, .int .i64 x1]) (.agg #[.int .u64 y0, .int .i64 y1])).run Try.prog w = .ok (x0 == y0 && (x1 == y1)) w := by
  refine eqA_of Try.underlying26 (by kernel_rfl) ?_
  refine eqf_cons (by rfl) (by go_simp; rfl) (by go_simp; rfl) (by go_simp) ?_
  exact eqf_last (by rfl) (by go_simp; rfl) (by go_simp; rfl) (by go_simp)
end Go.Proofs.Ytbicngaanhmabaa.PAll9
