-- written by xp.sh, a program of this seat's session
import Derived.Test.YtncpcjphljfcpaaDoorPParx0
import Derived.Test.YtncpcjphljfcpaaDoorXOpen
import Derived.KernelRfl
namespace Go.Proofs.YtncpcjphljfcpaaDoor.PPar
open Go.RowKit Go.Proofs.YtncpcjphljfcpaaDoorW.PrintWords Go.Proofs.YtncpcjphljfcpaaDoorW.PrintLast Go.Proofs.YtncpcjphljfcpaaDoorW.PrintMore
attribute [local go_sem] max2_int min2_int max_two min_two max_three min_three max_four min_four   -- for this text's walks alone
set_option linter.unusedVariables false
set_option linter.unusedSimpArgs false

open Go.Proofs.YtncpcjphljfcpaaDoorW.XOpen
def W31 (x : S31) : Prop := (fun n => (Lit.int .u32 n).wf = true) x.f0 ∧ ((fun n => (Lit.int .i64 n).wf = true) x.f1)
def m31 (x : S31) : Nat := ((fun _ => 1) x.f0 + ((fun _ => 1) x.f1)) + 1
theorem o31 {B : {H : Type} → DataW H → Nat} {BA : {H : Type} → List (DataW H) → Nat} (hB : IsBulk B BA) : Opens B Tryd.prog 31 k31 W31 m31 :=
  opens_iso (fun x : S31 => (x.f0, x.f1)) (fun a => ⟨⟨a.1, a.2⟩, rfl⟩) (opens_struct hB Tryd.underlying31 [(29, 0), (3, 1)] (by kernel_rfl) (by kernel_rfl) (fields_cons hB (o := 0) (by kernel_rfl) (opens_int hB Tryd.underlying29) (fields_one hB (o := 1) (by kernel_rfl) (opens_int hB Tryd.underlying3))))
def W33 (x : S33) : Prop := (fun n => (Lit.int .u8 n).wf = true) x.f0 ∧ ((fun n => (Lit.int .u8 n).wf = true) x.f1 ∧ ((fun n => (Lit.int .u8 n).wf = true) x.f2 ∧ ((fun n => (Lit.int .u8 n).wf = true) x.f3 ∧ ((fun n => (Lit.int .u8 n).wf = true) x.f4 ∧ ((fun n => (Lit.int .u8 n).wf = true) x.f5)))))
def m33 (x : S33) : Nat := ((fun _ => 1) x.f0 + ((fun _ => 1) x.f1 + ((fun _ => 1) x.f2 + ((fun _ => 1) x.f3 + ((fun _ => 1) x.f4 + ((fun _ => 1) x.f5)))))) + 1
theorem o33 {B : {H : Type} → DataW H → Nat} {BA : {H : Type} → List (DataW H) → Nat} (hB : IsBulk B BA) : Opens B Tryd.prog 33 k33 W33 m33 :=
  opens_iso (fun x : S33 => (x.f0, x.f1, x.f2, x.f3, x.f4, x.f5)) (fun a => ⟨⟨a.1, a.2.1, a.2.2.1, a.2.2.2.1, a.2.2.2.2.1, a.2.2.2.2.2⟩, rfl⟩) (opens_array hB Tryd.underlying33 [(5, 0), (5, 1), (5, 2), (5, 3), (5, 4), (5, 5)] (by kernel_rfl) (by kernel_rfl) (fields_cons hB (o := 0) (by kernel_rfl) (opens_int hB Tryd.underlying5) (fields_cons hB (o := 1) (by kernel_rfl) (opens_int hB Tryd.underlying5) (fields_cons hB (o := 2) (by kernel_rfl) (opens_int hB Tryd.underlying5) (fields_cons hB (o := 3) (by kernel_rfl) (opens_int hB Tryd.underlying5) (fields_cons hB (o := 4) (by kernel_rfl) (opens_int hB Tryd.underlying5) (fields_one hB (o := 5) (by kernel_rfl) (opens_int hB Tryd.underlying5))))))))
def W35 (x : S35) : Prop := (fun n => (Lit.int .u32 n).wf = true) x.f0 ∧ (W31 x.f1 ∧ (W33 x.f2))
def m35 (x : S35) : Nat := ((fun _ => 1) x.f0 + (m31 x.f1 + (m33 x.f2))) + 1
theorem o35 {B : {H : Type} → DataW H → Nat} {BA : {H : Type} → List (DataW H) → Nat} (hB : IsBulk B BA) : Opens B Tryd.prog 35 k35 W35 m35 :=
  opens_iso (fun x : S35 => (x.f0, x.f1, x.f2)) (fun a => ⟨⟨a.1, a.2.1, a.2.2⟩, rfl⟩) (opens_struct hB Tryd.underlying35 [(29, 0), (31, 1), (33, 3)] (by kernel_rfl) (by kernel_rfl) (fields_cons hB (o := 0) (by kernel_rfl) (opens_int hB Tryd.underlying29) (fields_cons hB (o := 1) (by kernel_rfl) (o31 hB) (fields_one hB (o := 3) (by kernel_rfl) (o33 hB)))))
end Go.Proofs.YtncpcjphljfcpaaDoor.PPar
