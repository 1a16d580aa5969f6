/- How a subnet that comes in is opened. -/
import Derived.Test.YtgabkifojnkbkaaPIpfx0
import Derived.Test.YtgabkifojnkbkaaXOpen
import Derived.KernelRfl
namespace Go.Proofs.Ytgabkifojnkbkaa.Ip
open Go.RowKit Go.Proofs.YtgabkifojnkbkaaW.PrintWords Go.Proofs.YtgabkifojnkbkaaW.XOpen
structure S25 where
  f0 : Int
  f1 : Int
def k25 : Kd S25 := Kd.iso (Kd.pair (Kd.int .u32) (Kd.int .i64)) (fun x : S25 => (x.f0, x.f1))
theorem k25_open {w : World} {x : S25} {cs : List Value} (h : k25.K w x cs) : cs = [.int .u32 x.f0, .int .i64 x.f1] := by
  obtain ⟨_, _, rfl, rfl, rfl⟩ := h
  exact rfl
def W25 (x : S25) : Prop := (fun n => (Lit.int .u32 n).wf = true) x.f0 ∧ ((fun n => (Lit.int .i64 n).wf = true) x.f1)
def m25 (x : S25) : Nat := ((fun _ => 1) x.f0 + ((fun _ => 1) x.f1)) + 1
theorem o25 {B : {H : Type} → DataW H → Nat} {BA : {H : Type} → List (DataW H) → Nat} (hB : IsBulk B BA) : Opens B Try.prog 25 k25 W25 m25 :=
  opens_iso (fun x : S25 => (x.f0, x.f1)) (fun a => ⟨⟨a.1, a.2⟩, rfl⟩) (opens_struct hB Try.underlying25 [(23, 0), (3, 1)] (by kernel_rfl) (by kernel_rfl) (fields_cons hB (o := 0) (by kernel_rfl) (opens_int hB Try.underlying23) (fields_one hB (o := 1) (by kernel_rfl) (opens_int hB Try.underlying3))))
end Go.Proofs.Ytgabkifojnkbkaa.Ip
