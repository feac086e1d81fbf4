-- WRITTEN BY wip/tools/myprint.py (this session's program, over the kit's printer); Lean checks it.
import Derived.Test.YtblgakliffiiiaaPx0
import Derived.Test.YtblgakliffiiiaaPx1
import Derived.Test.YtblgakliffiiiaaPx2
import Derived.Test.YtblgakliffiiiaaPx3
import Derived.Test.YtblgakliffiiiaaPx4
import Derived.Test.YtblgakliffiiiaaPx5
namespace Go.Proofs.Ytblgakliffiiiaa.P
open Go.RowKit Go.Proofs.YtblgakliffiiiaaW.PrintWords Go.Proofs.YtblgakliffiiiaaW.PrintLast Go.Proofs.YtblgakliffiiiaaW.PrintMore
attribute [local go_sem] max2_int min2_int max_two min_two max_three min_three max_four min_four   -- for this text's walks alone
set_option linter.unusedVariables false
set_option linter.unusedSimpArgs false

end Go.Proofs.Ytblgakliffiiiaa.P
