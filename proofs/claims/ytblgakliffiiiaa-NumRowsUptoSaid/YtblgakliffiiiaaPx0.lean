-- WRITTEN BY wip/tools/myprint.py (this session's program, over the kit's printer); Lean checks it.
import Derived.Test.YtblgakliffiiiaaProg
import Derived.Below
import Derived.Deep.Draws
import Derived.Deep.AppendLies
import Derived.Maps.AppendAt
import Derived.OwnWalk
import Derived.Laws.BytesArg
import Derived.Laws.MakeOwn
import Derived.Laws.OwnMore
import Derived.Deep.OwnRows
import Derived.Tactics
import Derived.Lib.ConvBytes
import Derived.Laws.Slices
import Derived.WalkKit
import Derived.KernelRfl
import Derived.RowKit3
import Derived.Deep.LoopGhost
import Derived.Deep.QuietTactic
import Derived.BigQuiet
import Derived.WideLaws
import Derived.Deep.DeepCutAuto
import Derived.Deep.CutBlock
import Derived.Deep.RegionHeld3
import Derived.Laws.Rows
import Derived.Lib.AppendStr
import Derived.ArgAppend
import Derived.Laws.IdiomCopy
import Derived.OrdersHeld
import Derived.Laws.BitsLemmas
import Derived.RowKit
import Derived.Test.YtblgakliffiiiaaMine
import Derived.Test.YtblgakliffiiiaaPreLen64
import Derived.Test.YtblgakliffiiiaaWWords
import Derived.Test.YtblgakliffiiiaaWLast
import Derived.Test.YtblgakliffiiiaaWTab
import Derived.Test.YtblgakliffiiiaaWFour
import Derived.Test.YtblgakliffiiiaaWQPut
import Derived.Test.YtblgakliffiiiaaWApart
import Derived.Test.YtblgakliffiiiaaWArr
import Derived.Test.YtblgakliffiiiaaWZeros
import Derived.Test.YtblgakliffiiiaaWFoot
import Derived.Test.YtblgakliffiiiaaWKept
import Derived.Test.YtblgakliffiiiaaWShare
import Derived.Test.YtblgakliffiiiaaWN
import Derived.Test.YtblgakliffiiiaaWFootNe
import Derived.Test.YtblgakliffiiiaaWAt
import Derived.Test.YtblgakliffiiiaaWEqStruct
import Derived.Test.YtblgakliffiiiaaWRepsOne
import Derived.Test.YtblgakliffiiiaaWInv
import Derived.Test.YtblgakliffiiiaaWInvWords
import Derived.Test.YtblgakliffiiiaaWGuard
import Derived.Test.YtblgakliffiiiaaWNEv
import Derived.Test.YtblgakliffiiiaaWMore
namespace Go.Proofs.Ytblgakliffiiiaa.P
open Go.RowKit Go.Proofs.YtblgakliffiiiaaW.PrintWords Go.Proofs.YtblgakliffiiiaaW.PrintLast Go.Proofs.YtblgakliffiiiaaW.PrintMore
attribute [local go_sem] max2_int min2_int max_two min_two max_three min_three max_four min_four   -- for this text's walks alone
set_option linter.unusedVariables false
set_option linter.unusedSimpArgs false



def errW : Option Int → Value
  | none => .nilIface
  | some c => .iface 0 (.int .i64 c)
theorem errW_none : errW none = .nilIface := rfl
theorem errW_some (c : Int) : errW (some c) = .iface 0 (.int .i64 c) := rfl

theorem info5 : (Try.prog.info? 5).map (fun i => (i.zero, i.size, i.bytes)) = some (some (.int .u8 0), 1, 1) := by kernel_rfl
-- the values' own types

end Go.Proofs.Ytblgakliffiiiaa.P
