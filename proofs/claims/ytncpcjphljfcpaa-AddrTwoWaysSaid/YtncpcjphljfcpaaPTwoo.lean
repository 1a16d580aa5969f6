-- written by xp.sh, a program of this seat's session
import Derived.Test.YtncpcjphljfcpaaPTwox0
import Derived.Test.YtncpcjphljfcpaaXOpen
import Derived.KernelRfl
namespace Go.Proofs.Ytncpcjphljfcpaa.PTwo
open Go.RowKit Go.Proofs.YtncpcjphljfcpaaW.PrintWords Go.Proofs.YtncpcjphljfcpaaW.PrintLast Go.Proofs.YtncpcjphljfcpaaW.PrintMore
attribute [local go_sem] max2_int min2_int max_two min_two max_three min_three max_four min_four   -- for this text's walks alone
set_option linter.unusedVariables false
set_option linter.unusedSimpArgs false

open Go.Proofs.YtncpcjphljfcpaaW.XOpen
def W32 (x : S32) : Prop := (fun n => (Lit.int .u32 n).wf = true) x.f0 ∧ ((fun n => (Lit.int .i64 n).wf = true) x.f1)
def m32 (x : S32) : Nat := ((fun _ => 1) x.f0 + ((fun _ => 1) x.f1)) + 1
theorem o32 {B : {H : Type} → DataW H → Nat} {BA : {H : Type} → List (DataW H) → Nat} (hB : IsBulk B BA) : Opens B Try.prog 32 k32 W32 m32 :=
  opens_iso (fun x : S32 => (x.f0, x.f1)) (fun a => ⟨⟨a.1, a.2⟩, rfl⟩) (opens_struct hB Try.underlying32 [(23, 0), (3, 1)] (by kernel_rfl) (by kernel_rfl) (fields_cons hB (o := 0) (by kernel_rfl) (opens_int hB Try.underlying23) (fields_one hB (o := 1) (by kernel_rfl) (opens_int hB Try.underlying3))))
def W36 (x : S36) : Prop := (fun n => (Lit.int .u8 n).wf = true) x.f0 ∧ ((fun n => (Lit.int .u8 n).wf = true) x.f1 ∧ ((fun n => (Lit.int .u8 n).wf = true) x.f2 ∧ ((fun n => (Lit.int .u8 n).wf = true) x.f3 ∧ ((fun n => (Lit.int .u8 n).wf = true) x.f4 ∧ ((fun n => (Lit.int .u8 n).wf = true) x.f5)))))
def m36 (x : S36) : Nat := ((fun _ => 1) x.f0 + ((fun _ => 1) x.f1 + ((fun _ => 1) x.f2 + ((fun _ => 1) x.f3 + ((fun _ => 1) x.f4 + ((fun _ => 1) x.f5)))))) + 1
theorem o36 {B : {H : Type} → DataW H → Nat} {BA : {H : Type} → List (DataW H) → Nat} (hB : IsBulk B BA) : Opens B Try.prog 36 k36 W36 m36 :=
  opens_iso (fun x : S36 => (x.f0, x.f1, x.f2, x.f3, x.f4, x.f5)) (fun a => ⟨⟨a.1, a.2.1, a.2.2.1, a.2.2.2.1, a.2.2.2.2.1, a.2.2.2.2.2⟩, rfl⟩) (opens_array hB Try.underlying36 [(5, 0), (5, 1), (5, 2), (5, 3), (5, 4), (5, 5)] (by kernel_rfl) (by kernel_rfl) (fields_cons hB (o := 0) (by kernel_rfl) (opens_int hB Try.underlying5) (fields_cons hB (o := 1) (by kernel_rfl) (opens_int hB Try.underlying5) (fields_cons hB (o := 2) (by kernel_rfl) (opens_int hB Try.underlying5) (fields_cons hB (o := 3) (by kernel_rfl) (opens_int hB Try.underlying5) (fields_cons hB (o := 4) (by kernel_rfl) (opens_int hB Try.underlying5) (fields_one hB (o := 5) (by kernel_rfl) (opens_int hB Try.underlying5))))))))
def W38 (x : S38) : Prop := (fun n => (Lit.int .u32 n).wf = true) x.f0 ∧ (W32 x.f1 ∧ (W36 x.f2))
def m38 (x : S38) : Nat := ((fun _ => 1) x.f0 + (m32 x.f1 + (m36 x.f2))) + 1
theorem o38 {B : {H : Type} → DataW H → Nat} {BA : {H : Type} → List (DataW H) → Nat} (hB : IsBulk B BA) : Opens B Try.prog 38 k38 W38 m38 :=
  opens_iso (fun x : S38 => (x.f0, x.f1, x.f2)) (fun a => ⟨⟨a.1, a.2.1, a.2.2⟩, rfl⟩) (opens_struct hB Try.underlying38 [(23, 0), (32, 1), (36, 3)] (by kernel_rfl) (by kernel_rfl) (fields_cons hB (o := 0) (by kernel_rfl) (opens_int hB Try.underlying23) (fields_cons hB (o := 1) (by kernel_rfl) (o32 hB) (fields_one hB (o := 3) (by kernel_rfl) (o36 hB)))))
end Go.Proofs.Ytncpcjphljfcpaa.PTwo
