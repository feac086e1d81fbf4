-- WRITTEN BY wip/tools/myprint.py (this session's program, over the kit's printer); Lean checks it.
import Derived.Test.YtfghhajimiimfaaPx0
import Derived.Test.YtfghhajimiimfaaPx1
import Derived.Test.YtfghhajimiimfaaPx2
import Derived.Test.YtfghhajimiimfaaPx3
import Derived.Test.YtfghhajimiimfaaPx4
import Derived.Test.YtfghhajimiimfaaPx5
import Derived.Test.YtfghhajimiimfaaPx6
namespace Go.Proofs.Ytfghhajimiimfaa.P
open Go.RowKit Go.Proofs.YtfghhajimiimfaaW.PrintWords Go.Proofs.YtfghhajimiimfaaW.PrintLast Go.Proofs.YtfghhajimiimfaaW.PrintMore
attribute [local go_sem] max2_int min2_int max_two min_two max_three min_three max_four min_four   -- for this text's walks alone
set_option linter.unusedVariables false
set_option linter.unusedSimpArgs false

end Go.Proofs.Ytfghhajimiimfaa.P
