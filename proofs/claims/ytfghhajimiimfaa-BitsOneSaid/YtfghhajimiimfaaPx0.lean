-- WRITTEN BY wip/tools/myprint.py (this session's program, over the kit's printer); Lean checks it.
import Derived.Test.YtfghhajimiimfaaProg
import Derived.Below
import Derived.Deep.Draws
import Derived.Deep.AppendLies
import Derived.Maps.AppendAt
import Derived.OwnWalk
import Derived.Laws.BytesArg
import Derived.Laws.MakeOwn
import Derived.Laws.OwnMore
import Derived.Deep.OwnRows
import Derived.Tactics
import Derived.Lib.ConvBytes
import Derived.Laws.Slices
import Derived.WalkKit
import Derived.KernelRfl
import Derived.RowKit3
import Derived.Deep.LoopGhost
import Derived.Deep.QuietTactic
import Derived.BigQuiet
import Derived.WideLaws
import Derived.Deep.DeepCutAuto
import Derived.Deep.CutBlock
import Derived.Deep.RegionHeld3
import Derived.Laws.Rows
import Derived.Lib.AppendStr
import Derived.ArgAppend
import Derived.Laws.IdiomCopy
import Derived.OrdersHeld
import Derived.Laws.BitsLemmas
import Derived.RowKit
import Derived.Test.YtfghhajimiimfaaMine
import Derived.Test.YtfghhajimiimfaaPreLen64
import Derived.Test.YtfghhajimiimfaaWWords
import Derived.Test.YtfghhajimiimfaaWLast
import Derived.Test.YtfghhajimiimfaaWTab
import Derived.Test.YtfghhajimiimfaaWFour
import Derived.Test.YtfghhajimiimfaaWQPut
import Derived.Test.YtfghhajimiimfaaWApart
import Derived.Test.YtfghhajimiimfaaWArr
import Derived.Test.YtfghhajimiimfaaWZeros
import Derived.Test.YtfghhajimiimfaaWFoot
import Derived.Test.YtfghhajimiimfaaWKept
import Derived.Test.YtfghhajimiimfaaWShare
import Derived.Test.YtfghhajimiimfaaWN
import Derived.Test.YtfghhajimiimfaaWFootNe
import Derived.Test.YtfghhajimiimfaaWAt
import Derived.Test.YtfghhajimiimfaaWEqStruct
import Derived.Test.YtfghhajimiimfaaWRepsOne
import Derived.Test.YtfghhajimiimfaaWInv
import Derived.Test.YtfghhajimiimfaaWInvWords
import Derived.Test.YtfghhajimiimfaaWGuard
import Derived.Test.YtfghhajimiimfaaWNEv
import Derived.Test.YtfghhajimiimfaaWMore
namespace Go.Proofs.Ytfghhajimiimfaa.P
open Go.RowKit Go.Proofs.YtfghhajimiimfaaW.PrintWords Go.Proofs.YtfghhajimiimfaaW.PrintLast Go.Proofs.YtfghhajimiimfaaW.PrintMore
attribute [local go_sem] max2_int min2_int max_two min_two max_three min_three max_four min_four   -- for this text's walks alone
set_option linter.unusedVariables false
set_option linter.unusedSimpArgs false



def errW : Option Int → Value
  | none => .nilIface
  | some c => .iface 0 (.int .i64 c)
theorem errW_none : errW none = .nilIface := rfl
theorem errW_some (c : Int) : errW (some c) = .iface 0 (.int .i64 c) := rfl

theorem info5 : (Try.prog.info? 5).map (fun i => (i.zero, i.size, i.bytes)) = some (some (.int .u8 0), 1, 1) := by kernel_rfl
theorem info41 : (Try.prog.info? 41).map (fun i => (i.zero, i.size, i.bytes)) = some (some (.int .u64 0), 1, 8) := by kernel_rfl
-- the values' own types

end Go.Proofs.Ytfghhajimiimfaa.P
