-- written by xp.sh, a program of this seat's session
import Derived.Test.YtncpcjphljfcpaaPMrgx0
import Derived.Test.YtncpcjphljfcpaaXOpen
import Derived.KernelRfl
namespace Go.Proofs.Ytncpcjphljfcpaa.PMrg
open Go.RowKit Go.Proofs.YtncpcjphljfcpaaW.PrintWords Go.Proofs.YtncpcjphljfcpaaW.PrintLast Go.Proofs.YtncpcjphljfcpaaW.PrintMore
attribute [local go_sem] max2_int min2_int max_two min_two max_three min_three max_four min_four   -- for this text's walks alone
set_option linter.unusedVariables false
set_option linter.unusedSimpArgs false

open Go.Proofs.YtncpcjphljfcpaaW.XOpen
def W32 (x : S32) : Prop := (fun n => (Lit.int .u32 n).wf = true) x.f0 ∧ ((fun n => (Lit.int .i64 n).wf = true) x.f1)
def m32 (x : S32) : Nat := ((fun _ => 1) x.f0 + ((fun _ => 1) x.f1)) + 1
theorem o32 {B : {H : Type} → DataW H → Nat} {BA : {H : Type} → List (DataW H) → Nat} (hB : IsBulk B BA) : Opens B Try.prog 32 k32 W32 m32 :=
  opens_iso (fun x : S32 => (x.f0, x.f1)) (fun a => ⟨⟨a.1, a.2⟩, rfl⟩) (opens_struct hB Try.underlying32 [(23, 0), (3, 1)] (by kernel_rfl) (by kernel_rfl) (fields_cons hB (o := 0) (by kernel_rfl) (opens_int hB Try.underlying23) (fields_one hB (o := 1) (by kernel_rfl) (opens_int hB Try.underlying3))))
end Go.Proofs.Ytncpcjphljfcpaa.PMrg
