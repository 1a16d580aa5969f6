/- How what comes in is opened: a Spec, a list of subnets, a script of steps. No condition. -/
import Derived.Test.YtebnlhjakiipjaaPoT
import Derived.Test.YtebnlhjakiipjaaXOpen
import Derived.KernelRfl
set_option linter.unusedVariables false
set_option linter.unusedSimpArgs false
namespace Go.Proofs.Ytebnlhjakiipjaa.Pl
open Go.RowKit Go.Proofs.YtebnlhjakiipjaaW.PrintWords Go.Proofs.YtebnlhjakiipjaaW.PrintMore Go.Proofs.Ytebnlhjakiipjaa.PPlf Go.Proofs.YtebnlhjakiipjaaW.XOpen
def W27 (x : S27) : Prop := (fun n => (Lit.int .u32 n).wf = true) x.f0 ∧ ((fun n => (Lit.int .i64 n).wf = true) x.f1)
def m27 (x : S27) : Nat := ((fun _ => 1) x.f0 + ((fun _ => 1) x.f1)) + 1
theorem o27 {B : {H : Type} → DataW H → Nat} {BA : {H : Type} → List (DataW H) → Nat} (hB : IsBulk B BA) : Opens B Try.prog 27 k27 W27 m27 :=
  opens_iso (fun x : S27 => (x.f0, x.f1)) (fun a => ⟨⟨a.1, a.2⟩, rfl⟩) (opens_struct hB Try.underlying27 [(25, 0), (3, 1)] (by kernel_rfl) (by kernel_rfl) (fields_cons hB (o := 0) (by kernel_rfl) (opens_int hB Try.underlying25) (fields_one hB (o := 1) (by kernel_rfl) (opens_int hB Try.underlying3))))
structure S30 where
  f0 : S27
  f1 : Int
  f2 : Int
  f3 : Int
  f4 : List S27
def k30 : Kd S30 := Kd.iso (Kd.pair k27 (Kd.pair (Kd.int .i64) (Kd.pair (Kd.int .u32) (Kd.pair (Kd.int .u32) (Kd.slice 27 k27))))) (fun x : S30 => (x.f0, x.f1, x.f2, x.f3, x.f4))
theorem k30_open {w : World} {x : S30} {cs : List Value} (h : k30.K w x cs) : ∃ A c, cs = [.int .u32 x.f0.f0, .int .i64 x.f0.f1, .int .i64 x.f1, .int .u32 x.f2, .int .u32 x.f3, .slice A x.f4.length c] ∧ x.f4.length ≤ c ∧ k27.C w A x.f4.length x.f4 := by
  obtain ⟨c0, _, rfl, h0, _, _, rfl, rfl, _, _, rfl, rfl, _, _, rfl, rfl, A, c, rfl, hl, hC⟩ := h
  obtain rfl := k27_open h0
  exact ⟨A, c, rfl, hl, hC⟩
def W30 (x : S30) : Prop := W27 x.f0 ∧ ((fun n => (Lit.int .i64 n).wf = true) x.f1 ∧ ((fun n => (Lit.int .u32 n).wf = true) x.f2 ∧ ((fun n => (Lit.int .u32 n).wf = true) x.f3 ∧ ((RowOf W27 16) x.f4))))
def m30 (x : S30) : Nat := (m27 x.f0 + ((fun _ => 1) x.f1 + ((fun _ => 1) x.f2 + ((fun _ => 1) x.f3 + ((fun l => sum m27 l + 1) x.f4))))) + 1
theorem o30 {B : {H : Type} → DataW H → Nat} {BA : {H : Type} → List (DataW H) → Nat} (hB : IsBulk B BA) : Opens B Try.prog 30 k30 W30 m30 :=
  opens_iso (fun x : S30 => (x.f0, x.f1, x.f2, x.f3, x.f4)) (fun a => ⟨⟨a.1, a.2.1, a.2.2.1, a.2.2.2.1, a.2.2.2.2⟩, rfl⟩) (opens_struct hB Try.underlying30 [(27, 0), (3, 2), (25, 3), (25, 4), (28, 5)] (by kernel_rfl) (by kernel_rfl) (fields_cons hB (o := 0) (by kernel_rfl) (o27 hB) (fields_cons hB (o := 2) (by kernel_rfl) (opens_int hB Try.underlying3) (fields_cons hB (o := 3) (by kernel_rfl) (opens_int hB Try.underlying25) (fields_cons hB (o := 4) (by kernel_rfl) (opens_int hB Try.underlying25) (fields_one hB (o := 5) (by kernel_rfl) (opens_slice hB Try.underlying28 (by kernel_rfl) (by kernel_rfl) (o27 hB))))))))
/-- a step that comes in -/
structure S49 where
  f0 : Int
  f1 : Int
  f2 : S27
def z49 : S49 := ⟨0, 0, z27⟩
def k49 : Kd S49 := Kd.iso (Kd.pair (Kd.int .i64) (Kd.pair (Kd.int .i64) k27)) (fun x : S49 => (x.f0, x.f1, x.f2))
theorem k49_open {w : World} {x : S49} {cs : List Value} (h : k49.K w x cs) : cs = [.int .i64 x.f0, .int .i64 x.f1, .int .u32 x.f2.f0, .int .i64 x.f2.f1] := by
  obtain ⟨_, _, rfl, rfl, _, _, rfl, rfl, h0⟩ := h
  obtain rfl := k27_open h0
  rfl
def W49 (x : S49) : Prop := (fun n => (Lit.int .i64 n).wf = true) x.f0 ∧ ((fun n => (Lit.int .i64 n).wf = true) x.f1 ∧ W27 x.f2)
def m49 (x : S49) : Nat := ((fun _ => 1) x.f0 + ((fun _ => 1) x.f1 + m27 x.f2)) + 1
theorem o49 {B : {H : Type} → DataW H → Nat} {BA : {H : Type} → List (DataW H) → Nat} (hB : IsBulk B BA) : Opens B Try.prog 49 k49 W49 m49 :=
  opens_iso (fun x : S49 => (x.f0, x.f1, x.f2)) (fun a => ⟨⟨a.1, a.2.1, a.2.2⟩, rfl⟩) (opens_struct hB Try.underlying49 [(3, 0), (3, 1), (27, 2)] (by kernel_rfl) (by kernel_rfl) (fields_cons hB (o := 0) (by kernel_rfl) (opens_int hB Try.underlying3) (fields_cons hB (o := 1) (by kernel_rfl) (opens_int hB Try.underlying3) (fields_one hB (o := 2) (by kernel_rfl) (o27 hB)))))
def rd49 (xs : List S49) (i : Nat) : S49 := xs.getD i z49
theorem at49 {w : World} {A : Option Addr} {n : Nat} {xs : List S49} (h : Kd.C k49 w A n xs) (i : Nat) (h1 : i < n) : ∃ ad, A = some ad ∧ w.cell? (ad.add (i * 4)) = some (.int .i64 (rd49 xs i).f0) ∧ w.cell? ⟨(ad.add (i * 4)).block, (ad.add (i * 4)).off + 1, none⟩ = some (.int .i64 (rd49 xs i).f1) ∧ w.cell? ⟨(ad.add (i * 4)).block, (ad.add (i * 4)).off + 2, none⟩ = some (.int .u32 (rd49 xs i).f2.f0) ∧ w.cell? ⟨(ad.add (i * 4)).block, (ad.add (i * 4)).off + 3, none⟩ = some (.int .i64 (rd49 xs i).f2.f1) := by
  obtain ⟨ad, c, e, _, hK, hc0⟩ := Kd.C_get h z49 (i : Int) (by omega) (by omega)
  have hc : ∀ j u, c[j]? = some u → w.cell? (ad.add (i * 4 + j)) = some u := hc0
  obtain rfl := k49_open hK
  exact ⟨ad, e, hc 0 _ rfl, by rw [← add_field _ _ 1 (by omega)]; exact hc 1 _ rfl, by rw [← add_field _ _ 2 (by omega)]; exact hc 2 _ rfl, by rw [← add_field _ _ 3 (by omega)]; exact hc 3 _ rfl⟩
theorem wf32_inv {a : Int} (h : (Lit.int .u32 a).wf = true) : 0 ≤ a ∧ a < 4294967296 := by
  have e1 : IntKind.u32.min = 0 := by decide
  have e2 : IntKind.u32.max = 4294967295 := by decide
  simp [Lit.wf, e1, e2] at h
  omega
theorem SpIn.of {w : World} {x : S30} {A : Option Addr} {c : Nat} (h : W30 x) (hl : x.f4.length ≤ c) (hC : k27.C w A x.f4.length x.f4) : SpIn w x.f0.f0 x.f0.f1 x.f1 x.f2 x.f3 A x.f4 c := by
  obtain ⟨h0, _, h2, h3, h4⟩ := h
  have a := wf32_inv h0.1
  have b := wf32_inv h2
  have d := wf32_inv h3
  exact ⟨a.1, a.2, b.1, b.2, d.1, d.2, by have := h4.2.1; omega, hl, hC, fun k hk => wf32_inv (h4.2.2 k hk).1⟩
theorem PxIn.of {w : World} {l : List S27} {A : Option Addr} {c : Nat} (h : RowOf W27 16 l) (hl : l.length ≤ c) (hC : k27.C w A l.length l) : PxIn w A l c :=
  ⟨by have := h.2.1; omega, hl, hC, fun k hk => wf32_inv (h.2.2 k hk).1⟩
theorem sets_law {w : World} {na nl s lo hi : Int} {A : Option Addr} {kept : List S27} {c : Nat} {A1 : Option Addr} {cl : List S27} {c1 : Nat} {A2 : Option Addr} {ot : List S27} {c2 : Nat} (hS : SpIn w na nl s lo hi A kept c) (h1 : PxIn w A1 cl c1) (h2 : PxIn w A2 ot c2) :
    Calls Try.prog 7 #[.agg #[.int .u32 na, .int .i64 nl, .int .i64 s, .int .u32 lo, .int .u32 hi, .slice A kept.length c], .slice A1 cl.length c1, .slice A2 ot.length c2] w fun e w' => e = .returned (.bool true) ∧ Below w.heap.size w w' := sets7 w na nl s lo hi A kept c A1 cl c1 A2 ot c2 hS h1 h2
end Go.Proofs.Ytebnlhjakiipjaa.Pl
