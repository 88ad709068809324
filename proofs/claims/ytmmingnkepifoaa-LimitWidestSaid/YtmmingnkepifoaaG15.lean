/- Some texts of one seat in one file, in build order. -/
import Derived.Test.YtmmingnkepifoaaG14
import Derived.Test.YtmmingnkepifoaaProg
import Derived.Below
import Derived.Deep.Draws
import Derived.Deep.AppendLies
import Derived.Maps.AppendAt
import Derived.OwnWalk
import Derived.Laws.BytesArg
import Derived.Laws.MakeOwn
import Derived.Laws.OwnMore
import Derived.Deep.OwnRows
import Derived.Tactics
import Derived.Lib.ConvBytes
import Derived.Laws.Slices
import Derived.WalkKit
import Derived.KernelRfl
import Derived.RowKit3
import Derived.Deep.LoopGhost
import Derived.Deep.QuietTactic
import Derived.BigQuiet
import Derived.WideLaws
import Derived.Deep.DeepCutAuto
import Derived.Deep.CutBlock
import Derived.Deep.RegionHeld3
import Derived.Laws.Rows
import Derived.Lib.AppendStr
import Derived.ArgAppend
import Derived.Laws.IdiomCopy
import Derived.OrdersHeld
import Derived.Laws.BitsLemmas
import Derived.RowKit
import Derived.Test.YtmmingnkepifoaaG11
import Derived.Test.YtmmingnkepifoaaWWords
import Derived.Test.YtmmingnkepifoaaWLast
import Derived.Test.YtmmingnkepifoaaWTab
import Derived.Test.YtmmingnkepifoaaWFour
import Derived.Test.YtmmingnkepifoaaWQPut
import Derived.Test.YtmmingnkepifoaaWApart
import Derived.Test.YtmmingnkepifoaaWArr
import Derived.Test.YtmmingnkepifoaaWZeros
import Derived.Test.YtmmingnkepifoaaWFoot
import Derived.Test.YtmmingnkepifoaaWKept
import Derived.Test.YtmmingnkepifoaaWShare
import Derived.Test.YtmmingnkepifoaaWN
import Derived.Test.YtmmingnkepifoaaWFootNe
import Derived.Test.YtmmingnkepifoaaWAt
import Derived.Test.YtmmingnkepifoaaWEqStruct
import Derived.Test.YtmmingnkepifoaaWRepsOne
import Derived.Test.YtmmingnkepifoaaWInv
import Derived.Test.YtmmingnkepifoaaWInvWords
import Derived.Test.YtmmingnkepifoaaWGuard
import Derived.Test.YtmmingnkepifoaaWNEv
import Derived.Test.YtmmingnkepifoaaWMore
/- The example of the statements about limit: alive() is true. -/
namespace Go.Proofs.Ytmmingnkepifoaa.H
open Go Go.RowKit Go.Proofs.YtmmingnkepifoaaW.PrintWords Go.Proofs.YtmmingnkepifoaaW.PrintLast Go.Proofs.YtmmingnkepifoaaW.PrintMore
theorem alive22_calls (w : World) : Calls Try.prog 7 #[] w fun e w' => e = .returned (.bool true) ∧ Below w.heap.size w w' := Go.Proofs.Ytmmingnkepifoaa.PAl22.saleroomlaw22_alive.calls 30 w (by decide +kernel)
end Go.Proofs.Ytmmingnkepifoaa.H
-- PRINTED BY A CHANGED COPY OF THE PRINT (wip/tools/patch_print.py), over contracts by hand
namespace Go.Proofs.Ytmmingnkepifoaa.PAll22
open Go.RowKit Go.Proofs.YtmmingnkepifoaaW.PrintWords Go.Proofs.YtmmingnkepifoaaW.PrintLast Go.Proofs.YtmmingnkepifoaaW.PrintMore
attribute [local go_sem] max2_int min2_int max_two min_two max_three min_three max_four min_four   -- for this text's walks alone
set_option linter.unusedVariables false
set_option linter.unusedSimpArgs false



def errW : Option Int → Value
  | none => .nilIface
  | some c => .iface 0 (.int .i64 c)
theorem errW_none : errW none = .nilIface := rfl
theorem errW_some (c : Int) : errW (some c) = .iface 0 (.int .i64 c) := rfl

-- the values' own types

end Go.Proofs.Ytmmingnkepifoaa.PAll22
