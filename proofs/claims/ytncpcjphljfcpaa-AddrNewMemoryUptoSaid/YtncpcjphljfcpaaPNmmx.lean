-- written by xp.sh, a program of this seat's session
import Derived.Test.YtncpcjphljfcpaaPNmmx0
import Derived.Test.YtncpcjphljfcpaaPNmmx1
import Derived.Test.YtncpcjphljfcpaaPNmmx2
import Derived.Test.YtncpcjphljfcpaaPNmmx3
import Derived.Test.YtncpcjphljfcpaaPNmmx4
import Derived.Test.YtncpcjphljfcpaaPNmmx5
namespace Go.Proofs.Ytncpcjphljfcpaa.PNmm
open Go.RowKit Go.Proofs.YtncpcjphljfcpaaW.PrintWords Go.Proofs.YtncpcjphljfcpaaW.PrintLast Go.Proofs.YtncpcjphljfcpaaW.PrintMore
attribute [local go_sem] max2_int min2_int max_two min_two max_three min_three max_four min_four   -- for this text's walks alone
set_option linter.unusedVariables false
set_option linter.unusedSimpArgs false

end Go.Proofs.Ytncpcjphljfcpaa.PNmm
