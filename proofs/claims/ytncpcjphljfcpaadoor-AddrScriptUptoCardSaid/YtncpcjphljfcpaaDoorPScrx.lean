-- written by xp.sh, a program of this seat's session
import Derived.Test.YtncpcjphljfcpaaDoorPScrx0
import Derived.Test.YtncpcjphljfcpaaDoorPScrx1
import Derived.Test.YtncpcjphljfcpaaDoorPScrx2
import Derived.Test.YtncpcjphljfcpaaDoorPScrx3
import Derived.Test.YtncpcjphljfcpaaDoorPScrx4
import Derived.Test.YtncpcjphljfcpaaDoorPScrx5
import Derived.Test.YtncpcjphljfcpaaDoorPScrx6
import Derived.Test.YtncpcjphljfcpaaDoorPScrx7
import Derived.Test.YtncpcjphljfcpaaDoorPScrx8
import Derived.Test.YtncpcjphljfcpaaDoorPScrx9
import Derived.Test.YtncpcjphljfcpaaDoorPScrx10
import Derived.Test.YtncpcjphljfcpaaDoorPScrx11
namespace Go.Proofs.YtncpcjphljfcpaaDoor.PScr
open Go.RowKit Go.Proofs.YtncpcjphljfcpaaDoorW.PrintWords Go.Proofs.YtncpcjphljfcpaaDoorW.PrintLast Go.Proofs.YtncpcjphljfcpaaDoorW.PrintMore
attribute [local go_sem] max2_int min2_int max_two min_two max_three min_three max_four min_four   -- for this text's walks alone
set_option linter.unusedVariables false
set_option linter.unusedSimpArgs false

end Go.Proofs.YtncpcjphljfcpaaDoor.PScr
