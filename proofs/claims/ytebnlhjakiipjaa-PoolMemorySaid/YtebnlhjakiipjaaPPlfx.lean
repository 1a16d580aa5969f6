-- written by xp.sh, a program of this seat's session
import Derived.Test.YtebnlhjakiipjaaPPlfx0
import Derived.Test.YtebnlhjakiipjaaPPlfx1
import Derived.Test.YtebnlhjakiipjaaPPlfx2
import Derived.Test.YtebnlhjakiipjaaPPlfx4
import Derived.Test.YtebnlhjakiipjaaPPlfx5
import Derived.Test.YtebnlhjakiipjaaPPlfx6
namespace Go.Proofs.Ytebnlhjakiipjaa.PPlf
open Go.RowKit Go.Proofs.YtebnlhjakiipjaaW.PrintWords Go.Proofs.YtebnlhjakiipjaaW.PrintLast Go.Proofs.YtebnlhjakiipjaaW.PrintMore
attribute [local go_sem] max2_int min2_int max_two min_two max_three min_three max_four min_four   -- for this text's walks alone
set_option linter.unusedVariables false
set_option linter.unusedSimpArgs false

end Go.Proofs.Ytebnlhjakiipjaa.PPlf
