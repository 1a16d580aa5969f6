-- written by xp.sh, a program of this seat's session
import Derived.Test.YtncpcjphljfcpaaPMrgx6
import Derived.Test.YtncpcjphljfcpaaPMrgo
namespace Go.Proofs.Ytncpcjphljfcpaa.PMrg
open Go.RowKit Go.Proofs.YtncpcjphljfcpaaW.PrintWords Go.Proofs.YtncpcjphljfcpaaW.PrintLast Go.Proofs.YtncpcjphljfcpaaW.PrintMore
attribute [local go_sem] max2_int min2_int max_two min_two max_three min_three max_four min_four   -- for this text's walks alone
set_option linter.unusedVariables false
set_option linter.unusedSimpArgs false

open Go.Proofs.YtncpcjphljfcpaaW.XOpen
def weftlaw1_AddrMergeWhole.Pure : Prop := ∀ (l0 : List (S32)) (a1 : Int), (Go.Proofs.YtncpcjphljfcpaaW.XOpen.RowOf W32 16) l0 → (fun n => (Lit.int .u32 n).wf = true) a1 → ∃ k, weftlaw1_AddrMergeWhole.f k l0 a1 = some true
end Go.Proofs.Ytncpcjphljfcpaa.PMrg
