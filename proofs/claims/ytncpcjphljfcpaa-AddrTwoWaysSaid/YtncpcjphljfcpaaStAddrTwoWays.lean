-- written by xp.sh, a program of this seat's session
import Derived.Test.YtncpcjphljfcpaaPTwox7
import Derived.Test.YtncpcjphljfcpaaPTwoo
namespace Go.Proofs.Ytncpcjphljfcpaa.PTwo
open Go.RowKit Go.Proofs.YtncpcjphljfcpaaW.PrintWords Go.Proofs.YtncpcjphljfcpaaW.PrintLast Go.Proofs.YtncpcjphljfcpaaW.PrintMore
attribute [local go_sem] max2_int min2_int max_two min_two max_three min_three max_four min_four   -- for this text's walks alone
set_option linter.unusedVariables false
set_option linter.unusedSimpArgs false

open Go.Proofs.YtncpcjphljfcpaaW.XOpen
def weftlaw1_AddrTwoWays.Pure : Prop := ∀ (l0 : List (S38)) (l1 : List ByteArray), (Go.Proofs.YtncpcjphljfcpaaW.XOpen.RowOf W38 32) l0 → (Go.Proofs.YtncpcjphljfcpaaW.XOpen.RowOf (fun s => s.size ≤ 140737488351232) 16) l1 → ∃ k, weftlaw1_AddrTwoWays.f k l0 l1 = some true
end Go.Proofs.Ytncpcjphljfcpaa.PTwo
