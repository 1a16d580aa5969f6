-- written by xp.sh, a program of this seat's session
import Derived.Test.YtgabkifojnkbkaaPIpfx0
import Derived.Test.YtgabkifojnkbkaaPIpfx1
import Derived.Test.YtgabkifojnkbkaaPIpfx2
import Derived.Test.YtgabkifojnkbkaaPIpfx3
import Derived.Test.YtgabkifojnkbkaaPIpfx4
import Derived.Test.YtgabkifojnkbkaaPIpfx5
namespace Go.Proofs.Ytgabkifojnkbkaa.PIpf
open Go.RowKit Go.Proofs.YtgabkifojnkbkaaW.PrintWords Go.Proofs.YtgabkifojnkbkaaW.PrintLast Go.Proofs.YtgabkifojnkbkaaW.PrintMore
attribute [local go_sem] max2_int min2_int max_two min_two max_three min_three max_four min_four   -- for this text's walks alone
set_option linter.unusedVariables false
set_option linter.unusedSimpArgs false

end Go.Proofs.Ytgabkifojnkbkaa.PIpf
