/- How a Spec, a list of subnets and a script come in. Conditions: what comes in is of its kind. -/
import Derived.Test.YtebnlhjakiipjaaPaF
import Derived.Test.YtebnlhjakiipjaaXOpen
import Derived.KernelRfl
set_option linter.unusedVariables false
set_option linter.unusedSimpArgs false
namespace Go.Proofs.Ytebnlhjakiipjaa.Pl
section P0
open Go.RowKit Go.Maps Go.Proofs.YtebnlhjakiipjaaW.PrintWords Go.Proofs.YtebnlhjakiipjaaW.PrintMore Go.Proofs.Ytebnlhjakiipjaa.PPlf
/-- a Spec as it comes in -/
structure SpIn (w : World) (na nl s lo hi : Int) (A : Option Addr) (kept : List S27) (c : Nat) : Prop where
  na0 : 0 ≤ na
  na1 : na < 4294967296
  lo0 : 0 ≤ lo
  lo1 : lo < 4294967296
  hi0 : 0 ≤ hi
  hi1 : hi < 4294967296
  len : kept.length ≤ 140737488355328
  cap : kept.length ≤ c
  C : Kd.C k27 w A kept.length kept
  W : ∀ k, k ∈ kept → 0 ≤ k.f0 ∧ k.f0 < 4294967296
def spV (na nl s lo hi : Int) (A : Option Addr) (n c : Nat) : Value := .agg #[.int .u32 na, .int .i64 nl, .int .i64 s, .int .u32 lo, .int .u32 hi, .slice A n c]
section
variable {w : World} {na nl s lo hi : Int} {A : Option Addr} {kept : List S27} {c : Nat}
theorem SpIn.below {w' : World} (h : SpIn w na nl s lo hi A kept c) (hb : Below w.heap.size w w') : SpIn w' na nl s lo hi A kept c := ⟨h.na0, h.na1, h.lo0, h.lo1, h.hi0, h.hi1, h.len, h.cap, Kd.C_below h.C hb, h.W⟩
theorem SpIn.bad (h : SpIn w na nl s lo hi A kept c) (hE : newE na nl s lo hi kept ≠ 0) : Calls Try.prog 13 #[.agg #[.int .u32 na, .int .i64 nl, .int .i64 s, .int .u32 lo, .int .u32 hi, .slice A kept.length c]] w fun e w' => e = .returned (.tuple #[.pointer none, .int .i64 (newE na nl s lo hi kept)]) ∧ Below w.heap.size w w' := by
  refine (made13 w na nl s lo hi A kept c (by have := h.len; unfold maxLen; omega) h.na0 h.na1 h.lo0 h.lo1 h.hi0 h.hi1 h.C h.W).mono ?_
  rintro e w' ⟨⟨_, rfl⟩ | ⟨he, _⟩, hb⟩
  · exact ⟨rfl, hb⟩
  · exact absurd he hE
theorem SpIn.good (h : SpIn w na nl s lo hi A kept c) (hE : newE na nl s lo hi kept = 0) : MOk (newM na nl s lo hi kept) ∧ Calls Try.prog 13 #[.agg #[.int .u32 na, .int .i64 nl, .int .i64 s, .int .u32 lo, .int .u32 hi, .slice A kept.length c]] w fun e w' => ∃ b F, e = .returned (.tuple #[.pointer (some ⟨b, 0, none⟩), .int .i64 0]) ∧ Po w' b (newM na nl s lo hi kept) [] F ∧ (∀ k, k ∈ F → w.heap.size ≤ k) ∧ Below w.heap.size w w' := by
  refine ⟨newM_ok h.na0 h.na1 h.lo0 h.hi1 hE, (made13 w na nl s lo hi A kept c (by have := h.len; unfold maxLen; omega) h.na0 h.na1 h.lo0 h.lo1 h.hi0 h.hi1 h.C h.W).mono ?_⟩
  rintro e w' ⟨⟨he, _⟩ | ⟨_, _, b, F, rfl, h1, h2⟩, hb⟩
  · exact absurd hE he
  · exact ⟨b, F, rfl, h1, h2, hb⟩
end
/-- a list of subnets as it comes in -/
structure PxIn (w : World) (A : Option Addr) (l : List S27) (c : Nat) : Prop where
  len : l.length ≤ 140737488355328
  cap : l.length ≤ c
  C : Kd.C k27 w A l.length l
  W : ∀ k, k ∈ l → 0 ≤ k.f0 ∧ k.f0 < 4294967296
theorem PxIn.at_ {w wr : World} {A : Option Addr} {l : List S27} {c i : Nat} (h : PxIn w A l c) (hb : Below w.heap.size w wr) (hi : i < l.length) : ∃ ad a b, A = some ad ∧ wr.cell? (ad.add (i * 2)) = some (.int .u32 a) ∧ wr.cell? ⟨(ad.add (i * 2)).block, (ad.add (i * 2)).off + 1, none⟩ = some (.int .i64 b) ∧ l[i] = ⟨a, b⟩ ∧ 0 ≤ a ∧ a < 4294967296 := by
  obtain ⟨ad, e, c0, c1⟩ := at_T27 (Kd.C_below h.C hb) (i : Int) (by omega) (by omega)
  rw [Int.toNat_natCast, rd_at hi] at c0 c1
  have := h.W _ (List.getElem_mem hi)
  exact ⟨ad, _, _, e, c0, c1, rfl, this.1, this.2⟩
end P0
section P1
open Go.RowKit Go.Proofs.YtebnlhjakiipjaaW.PrintWords Go.Proofs.YtebnlhjakiipjaaW.PrintMore Go.Proofs.Ytebnlhjakiipjaa.PPlf Go.Proofs.YtebnlhjakiipjaaW.XOpen
def W27 (x : S27) : Prop := (fun n => (Lit.int .u32 n).wf = true) x.f0 ∧ ((fun n => (Lit.int .i64 n).wf = true) x.f1)
def m27 (x : S27) : Nat := ((fun _ => 1) x.f0 + ((fun _ => 1) x.f1)) + 1
theorem o27 {B : {H : Type} → DataW H → Nat} {BA : {H : Type} → List (DataW H) → Nat} (hB : IsBulk B BA) : Opens B Try.prog 27 k27 W27 m27 :=
  opens_iso (fun x : S27 => (x.f0, x.f1)) (fun a => ⟨⟨a.1, a.2⟩, rfl⟩) (opens_struct hB Try.underlying27 [(25, 0), (3, 1)] (by kernel_rfl) (by kernel_rfl) (fields_cons hB (o := 0) (by kernel_rfl) (opens_int hB Try.underlying25) (fields_one hB (o := 1) (by kernel_rfl) (opens_int hB Try.underlying3))))
structure S30 where
  f0 : S27
  f1 : Int
  f2 : Int
  f3 : Int
  f4 : List S27
def k30 : Kd S30 := Kd.iso (Kd.pair k27 (Kd.pair (Kd.int .i64) (Kd.pair (Kd.int .u32) (Kd.pair (Kd.int .u32) (Kd.slice 27 k27))))) (fun x : S30 => (x.f0, x.f1, x.f2, x.f3, x.f4))
theorem k30_open {w : World} {x : S30} {cs : List Value} (h : k30.K w x cs) : ∃ A c, cs = [.int .u32 x.f0.f0, .int .i64 x.f0.f1, .int .i64 x.f1, .int .u32 x.f2, .int .u32 x.f3, .slice A x.f4.length c] ∧ x.f4.length ≤ c ∧ k27.C w A x.f4.length x.f4 := by
  obtain ⟨c0, _, rfl, h0, _, _, rfl, rfl, _, _, rfl, rfl, _, _, rfl, rfl, A, c, rfl, hl, hC⟩ := h
  obtain rfl := k27_open h0
  exact ⟨A, c, rfl, hl, hC⟩
def W30 (x : S30) : Prop := W27 x.f0 ∧ ((fun n => (Lit.int .i64 n).wf = true) x.f1 ∧ ((fun n => (Lit.int .u32 n).wf = true) x.f2 ∧ ((fun n => (Lit.int .u32 n).wf = true) x.f3 ∧ ((RowOf W27 16) x.f4))))
def m30 (x : S30) : Nat := (m27 x.f0 + ((fun _ => 1) x.f1 + ((fun _ => 1) x.f2 + ((fun _ => 1) x.f3 + ((fun l => sum m27 l + 1) x.f4))))) + 1
theorem o30 {B : {H : Type} → DataW H → Nat} {BA : {H : Type} → List (DataW H) → Nat} (hB : IsBulk B BA) : Opens B Try.prog 30 k30 W30 m30 :=
  opens_iso (fun x : S30 => (x.f0, x.f1, x.f2, x.f3, x.f4)) (fun a => ⟨⟨a.1, a.2.1, a.2.2.1, a.2.2.2.1, a.2.2.2.2⟩, rfl⟩) (opens_struct hB Try.underlying30 [(27, 0), (3, 2), (25, 3), (25, 4), (28, 5)] (by kernel_rfl) (by kernel_rfl) (fields_cons hB (o := 0) (by kernel_rfl) (o27 hB) (fields_cons hB (o := 2) (by kernel_rfl) (opens_int hB Try.underlying3) (fields_cons hB (o := 3) (by kernel_rfl) (opens_int hB Try.underlying25) (fields_cons hB (o := 4) (by kernel_rfl) (opens_int hB Try.underlying25) (fields_one hB (o := 5) (by kernel_rfl) (opens_slice hB Try.underlying28 (by kernel_rfl) (by kernel_rfl) (o27 hB))))))))
/-- a step that comes in -/
structure S49 where
  f0 : Int
  f1 : Int
  f2 : S27
def z49 : S49 := ⟨0, 0, z27⟩
def k49 : Kd S49 := Kd.iso (Kd.pair (Kd.int .i64) (Kd.pair (Kd.int .i64) k27)) (fun x : S49 => (x.f0, x.f1, x.f2))
theorem k49_open {w : World} {x : S49} {cs : List Value} (h : k49.K w x cs) : cs = [.int .i64 x.f0, .int .i64 x.f1, .int .u32 x.f2.f0, .int .i64 x.f2.f1] := by
  obtain ⟨_, _, rfl, rfl, _, _, rfl, rfl, h0⟩ := h
  obtain rfl := k27_open h0
  rfl
def W49 (x : S49) : Prop := (fun n => (Lit.int .i64 n).wf = true) x.f0 ∧ ((fun n => (Lit.int .i64 n).wf = true) x.f1 ∧ W27 x.f2)
def m49 (x : S49) : Nat := ((fun _ => 1) x.f0 + ((fun _ => 1) x.f1 + m27 x.f2)) + 1
theorem o49 {B : {H : Type} → DataW H → Nat} {BA : {H : Type} → List (DataW H) → Nat} (hB : IsBulk B BA) : Opens B Try.prog 49 k49 W49 m49 :=
  opens_iso (fun x : S49 => (x.f0, x.f1, x.f2)) (fun a => ⟨⟨a.1, a.2.1, a.2.2⟩, rfl⟩) (opens_struct hB Try.underlying49 [(3, 0), (3, 1), (27, 2)] (by kernel_rfl) (by kernel_rfl) (fields_cons hB (o := 0) (by kernel_rfl) (opens_int hB Try.underlying3) (fields_cons hB (o := 1) (by kernel_rfl) (opens_int hB Try.underlying3) (fields_one hB (o := 2) (by kernel_rfl) (o27 hB)))))
def rd49 (xs : List S49) (i : Nat) : S49 := xs.getD i z49
theorem at49 {w : World} {A : Option Addr} {n : Nat} {xs : List S49} (h : Kd.C k49 w A n xs) (i : Nat) (h1 : i < n) : ∃ ad, A = some ad ∧ w.cell? (ad.add (i * 4)) = some (.int .i64 (rd49 xs i).f0) ∧ w.cell? ⟨(ad.add (i * 4)).block, (ad.add (i * 4)).off + 1, none⟩ = some (.int .i64 (rd49 xs i).f1) ∧ w.cell? ⟨(ad.add (i * 4)).block, (ad.add (i * 4)).off + 2, none⟩ = some (.int .u32 (rd49 xs i).f2.f0) ∧ w.cell? ⟨(ad.add (i * 4)).block, (ad.add (i * 4)).off + 3, none⟩ = some (.int .i64 (rd49 xs i).f2.f1) := by
  obtain ⟨ad, c, e, _, hK, hc0⟩ := Kd.C_get h z49 (i : Int) (by omega) (by omega)
  have hc : ∀ j u, c[j]? = some u → w.cell? (ad.add (i * 4 + j)) = some u := hc0
  obtain rfl := k49_open hK
  exact ⟨ad, e, hc 0 _ rfl, by rw [← add_field _ _ 1 (by omega)]; exact hc 1 _ rfl, by rw [← add_field _ _ 2 (by omega)]; exact hc 2 _ rfl, by rw [← add_field _ _ 3 (by omega)]; exact hc 3 _ rfl⟩
theorem wf32_inv {a : Int} (h : (Lit.int .u32 a).wf = true) : 0 ≤ a ∧ a < 4294967296 := by
  have e1 : IntKind.u32.min = 0 := by decide
  have e2 : IntKind.u32.max = 4294967295 := by decide
  simp [Lit.wf, e1, e2] at h
  omega
theorem SpIn.of {w : World} {x : S30} {A : Option Addr} {c : Nat} (h : W30 x) (hl : x.f4.length ≤ c) (hC : k27.C w A x.f4.length x.f4) : SpIn w x.f0.f0 x.f0.f1 x.f1 x.f2 x.f3 A x.f4 c := by
  obtain ⟨h0, _, h2, h3, h4⟩ := h
  have a := wf32_inv h0.1
  have b := wf32_inv h2
  have d := wf32_inv h3
  exact ⟨a.1, a.2, b.1, b.2, d.1, d.2, by have := h4.2.1; omega, hl, hC, fun k hk => wf32_inv (h4.2.2 k hk).1⟩
theorem PxIn.of {w : World} {l : List S27} {A : Option Addr} {c : Nat} (h : RowOf W27 16 l) (hl : l.length ≤ c) (hC : k27.C w A l.length l) : PxIn w A l c :=
  ⟨by have := h.2.1; omega, hl, hC, fun k hk => wf32_inv (h.2.2 k hk).1⟩
end P1
end Go.Proofs.Ytebnlhjakiipjaa.Pl
