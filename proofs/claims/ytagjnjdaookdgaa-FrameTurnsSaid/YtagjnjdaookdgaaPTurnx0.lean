-- PRINTED BY A CHANGED COPY OF THE PRINT (wip/tools/patch_print.py), over contracts by hand
import Derived.Test.YtagjnjdaookdgaaProg
import Derived.Below
import Derived.Deep.Draws
import Derived.Deep.AppendLies
import Derived.Maps.AppendAt
import Derived.OwnWalk
import Derived.Laws.BytesArg
import Derived.Laws.MakeOwn
import Derived.Laws.OwnMore
import Derived.Deep.OwnRows
import Derived.Tactics
import Derived.Lib.ConvBytes
import Derived.Laws.Slices
import Derived.WalkKit
import Derived.KernelRfl
import Derived.RowKit3
import Derived.Deep.LoopGhost
import Derived.Deep.QuietTactic
import Derived.BigQuiet
import Derived.WideLaws
import Derived.Deep.DeepCutAuto
import Derived.Deep.CutBlock
import Derived.Deep.RegionHeld3
import Derived.Laws.Rows
import Derived.Lib.AppendStr
import Derived.ArgAppend
import Derived.Laws.IdiomCopy
import Derived.OrdersHeld
import Derived.Laws.BitsLemmas
import Derived.RowKit
import Derived.Test.YtagjnjdaookdgaaRef01
import Derived.Test.YtagjnjdaookdgaaRef03
import Derived.Test.YtagjnjdaookdgaaSl
import Derived.Test.YtagjnjdaookdgaaSum2
import Derived.Test.YtagjnjdaookdgaaSum
import Derived.Test.YtagjnjdaookdgaaWWords
import Derived.Test.YtagjnjdaookdgaaWLast
import Derived.Test.YtagjnjdaookdgaaWTab
import Derived.Test.YtagjnjdaookdgaaWFour
import Derived.Test.YtagjnjdaookdgaaWQPut
import Derived.Test.YtagjnjdaookdgaaWApart
import Derived.Test.YtagjnjdaookdgaaWArr
import Derived.Test.YtagjnjdaookdgaaWZeros
import Derived.Test.YtagjnjdaookdgaaWFoot
import Derived.Test.YtagjnjdaookdgaaWKept
import Derived.Test.YtagjnjdaookdgaaWShare
import Derived.Test.YtagjnjdaookdgaaWN
import Derived.Test.YtagjnjdaookdgaaWFootNe
import Derived.Test.YtagjnjdaookdgaaWAt
import Derived.Test.YtagjnjdaookdgaaWEqStruct
import Derived.Test.YtagjnjdaookdgaaWRepsOne
import Derived.Test.YtagjnjdaookdgaaWInv
import Derived.Test.YtagjnjdaookdgaaWInvWords
import Derived.Test.YtagjnjdaookdgaaWGuard
import Derived.Test.YtagjnjdaookdgaaWNEv
import Derived.Test.YtagjnjdaookdgaaWMore
namespace Go.Proofs.Ytagjnjdaookdgaa.PTurn
open Go.RowKit Go.Proofs.YtagjnjdaookdgaaW.PrintWords Go.Proofs.YtagjnjdaookdgaaW.PrintLast Go.Proofs.YtagjnjdaookdgaaW.PrintMore
attribute [local go_sem] max2_int min2_int max_two min_two max_three min_three max_four min_four   -- for this text's walks alone
set_option linter.unusedVariables false
set_option linter.unusedSimpArgs false



def errW : Option Int → Value
  | none => .nilIface
  | some c => .iface 0 (.int .i64 c)
theorem errW_none : errW none = .nilIface := rfl
theorem errW_some (c : Int) : errW (some c) = .iface 0 (.int .i64 c) := rfl

-- the values' own types

end Go.Proofs.Ytagjnjdaookdgaa.PTurn
