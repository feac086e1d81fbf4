-- WRITTEN BY wip/tools/myprint.py (this session's program, over the kit's printer); Lean checks it.
import Derived.Test.YtlmegmjdjdmmgaaPx0
import Derived.Test.YtlmegmjdjdmmgaaPx1
import Derived.Test.YtlmegmjdjdmmgaaPx2
import Derived.Test.YtlmegmjdjdmmgaaPx3
import Derived.Test.YtlmegmjdjdmmgaaPx4
import Derived.Test.YtlmegmjdjdmmgaaPx5
import Derived.Test.YtlmegmjdjdmmgaaPx6
import Derived.Test.YtlmegmjdjdmmgaaPx7
namespace Go.Proofs.Ytlmegmjdjdmmgaa.P
open Go.RowKit Go.Proofs.YtlmegmjdjdmmgaaW.PrintWords Go.Proofs.YtlmegmjdjdmmgaaW.PrintLast Go.Proofs.YtlmegmjdjdmmgaaW.PrintMore
attribute [local go_sem] max2_int min2_int max_two min_two max_three min_three max_four min_four   -- for this text's walks alone
set_option linter.unusedVariables false
set_option linter.unusedSimpArgs false

end Go.Proofs.Ytlmegmjdjdmmgaa.P
