-- written by xp.sh, a program of this seat's session
import Derived.Test.YtncpcjphljfcpaaDoorPParx9
import Derived.Test.YtncpcjphljfcpaaDoorPParo
namespace Go.Proofs.YtncpcjphljfcpaaDoor.PPar
open Go.RowKit Go.Proofs.YtncpcjphljfcpaaDoorW.PrintWords Go.Proofs.YtncpcjphljfcpaaDoorW.PrintLast Go.Proofs.YtncpcjphljfcpaaDoorW.PrintMore
attribute [local go_sem] max2_int min2_int max_two min_two max_three min_three max_four min_four   -- for this text's walks alone
set_option linter.unusedVariables false
set_option linter.unusedSimpArgs false

open Go.Proofs.YtncpcjphljfcpaaDoorW.XOpen
def weftlaw1_AddrFormats.Pure : Prop := ∀ (l0 : List (S35)), (Go.Proofs.YtncpcjphljfcpaaDoorW.XOpen.RowOf W35 32) l0 → ∃ k, weftlaw1_AddrFormats.f k l0 = some true
end Go.Proofs.YtncpcjphljfcpaaDoor.PPar
