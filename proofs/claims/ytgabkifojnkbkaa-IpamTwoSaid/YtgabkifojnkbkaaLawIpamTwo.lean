/- Two subnets in turns: each answers as if it were alone. The statement weftlaw15.IpamTwo. No condition. -/
import Derived.Test.YtgabkifojnkbkaaRows
import Derived.Test.YtgabkifojnkbkaaIpmPl
import Derived.Test.YtgabkifojnkbkaaIpmTw
import Derived.WalkKit
import Derived.ProofKit
import Derived.OpenShut
import Derived.ShutString
import Derived.ChangeOld
import Derived.Below
import Derived.SizedLaws
namespace Go.Proofs.Ytgabkifojnkbkaa.ipamTwo
open Go.ChangeShapes Go.WideShapes Go.ChangeAt Go.RowKit Go.Proofs.Ytgabkifojnkbkaa.Ip Go.Proofs.YtgabkifojnkbkaaW.PrintWords Go.Proofs.YtgabkifojnkbkaaW.XOpen
open Go.ChangeMaps (open_string shut_string)
set_option linter.unusedVariables false
theorem own : ownKnob Try.prog.godebug = none := by kernel_rfl
theorem laidOut : laidOutB Try.prog = true := by kernel_rfl
theorem wfU {a : Int} (h : (Lit.int .u32 a).wf = true) : 0 ≤ a ∧ a < 4294967296 := by
  have e1 : IntKind.u32.min = 0 := by decide
  have e2 : IntKind.u32.max = 4294967295 := by decide
  simp [Lit.wf, e1, e2] at h
  omega
set_option maxRecDepth 100000 in
theorem lifted (os : Os) (started : os.Started) (H : Type) (enc : TypeId × Value → H) :
    ReturnsInHanded {} Try.checked os 9 .any (Rows.ipamTwoSpec.pre6 enc Try.prog Try.f9 Rows.ipamTwoRow.domain false) (Rows.ipamTwoSpec.post enc Try.prog Try.f9 false true false false) := by
  refine returnsInHanded_of_change_sized (C := Try.checked) own started (by kernel_rfl) Try.func9
    (ChangeSpec.witness6 (enc := enc) (C := Try.checked) false ⟨#[], #[.agg #[.int .u32 0, .int .i64 0], .agg #[.int .u32 0, .int .i64 0], .slice none 0 0, .slice none 0 0], []⟩ 8 (by kernel_rfl) (by kernel_rfl) (by kernel_rfl) (by kernel_rfl)) ?_
  intro W base args ds gs before hval0 hW hcnd hsz0 _
  have hsz : (DataW.weightsEach Try.prog (Try.f9.params.toList ++ Rows.ipamTwoSpec.plain.varTypes Try.prog) (ds ++ gs)).all (· ≤ reachBytes) = true := hsz0
  have hval : ∀ (j : Nat) t v, Try.f9.params[j]? = some t → args[j]? = some v → Value.okWide Try.prog W .any base t v := hval0
  have hW' := hW
  obtain ⟨p, q, hA0, hV, rfl, hfz, hnd⟩ := hW
  have hA : DataW.TrodAll enc Try.prog W 0 (fun _ => true) true Try.f9.params.toList args.toList ds p := hA0
  rw [Try.params9] at hA hval hsz
  obtain ⟨B, BA, hB⟩ := isBulk_any
  obtain ⟨v0, vs0, d0, ds0, p0, q0, hargs, rfl, rfl, h0, r0⟩ := trodAll_cons hA
  obtain ⟨v1, vs1, d1, ds1, p1, q1, rfl, rfl, rfl, h1, r1⟩ := trodAll_cons r0
  obtain ⟨v2, vs2, d2, ds2, p2, q2, rfl, rfl, rfl, h2, r2⟩ := trodAll_cons r1
  obtain ⟨v3, vs3, d3, ds3, p3, q3, rfl, rfl, rfl, h3, r3⟩ := trodAll_cons r2
  obtain ⟨rfl, rfl, rfl⟩ := trodAll_nil r3
  obtain rfl : args = #[v0, v1, v2, v3] := by cases args; simp_all
  obtain ⟨rfl, rfl⟩ := trodVars_none hV
  obtain ⟨cs0, rfl, _⟩ := okWide_struct Try.underlying25 (hval 0 25 v0 rfl rfl)
  obtain ⟨cs1, rfl, _⟩ := okWide_struct Try.underlying25 (hval 1 25 v1 rfl rfl)
  obtain ⟨A2, n2, c2, rfl⟩ := okWide_slice Try.underlying32 (hval 2 32 v2 rfl rfl)
  obtain ⟨A3, n3, c3, rfl⟩ := okWide_slice Try.underlying35 (hval 3 35 v3 rfl rfl)
  have k0 := h0
  have lt0 : ∀ x ∈ p0, x.block < W.heap.size := by obtain ⟨m, hm⟩ := k0; exact DataW.trod_lt m _ _ _ hm
  have k1 := h1
  have lt1 : ∀ x ∈ p1, x.block < W.heap.size := by obtain ⟨m, hm⟩ := k1; exact DataW.trod_lt m _ _ _ hm
  have k2 := h2
  have lt2 : ∀ x ∈ p2, x.block < W.heap.size := by obtain ⟨m, hm⟩ := k2; exact DataW.trod_lt m _ _ _ hm
  have k3 := h3
  have lt3 : ∀ x ∈ p3, x.block < W.heap.size := by obtain ⟨m, hm⟩ := k3; exact DataW.trod_lt m _ _ _ hm
  obtain ⟨l0, hK0, hW0, _⟩ := open_arg (B := B) (o25 hB) h0 hsz (j := 0) rfl rfl
  obtain ⟨a0_0, a0_1⟩ := l0
  have hc0 := k25_open hK0
  simp only [Value.cells] at hc0
  obtain rfl : cs0 = #[.int .u32 a0_0, .int .i64 a0_1] := by cases cs0; simpa using hc0
  obtain ⟨ha0, hb0⟩ := wfU hW0.1
  obtain ⟨l1, hK1, hW1, _⟩ := open_arg (B := B) (o25 hB) h1 hsz (j := 1) rfl rfl
  obtain ⟨a1_0, a1_1⟩ := l1
  have hc1 := k25_open hK1
  simp only [Value.cells] at hc1
  obtain rfl : cs1 = #[.int .u32 a1_0, .int .i64 a1_1] := by cases cs1; simpa using hc1
  obtain ⟨ha1, hb1⟩ := wfU hW1.1
  obtain ⟨xs2, hK2, hW2, _⟩ := open_arg (B := B) (opens_slice (bytes := 32) hB Try.underlying32 (by kernel_rfl) (by kernel_rfl) (o39 hB)) h2 hsz (j := 2) rfl rfl
  obtain ⟨A2', c2', hc2, hle2, hC2⟩ := hK2
  simp only [Value.cells, List.cons.injEq, Value.slice.injEq, and_true] at hc2
  obtain ⟨rfl, rfl, rfl⟩ := hc2
  have hWR2 : RowOf W39 32 xs2 := hW2
  obtain ⟨xs3, hK3, hW3, _⟩ := open_arg (B := B) (opens_slice (bytes := 1) hB Try.underlying35 (by kernel_rfl) (by kernel_rfl) (opens_bool hB Try.underlying4)) h3 hsz (j := 3) rfl rfl
  obtain ⟨A3', c3', hc3, hle3, hC3⟩ := hK3
  simp only [Value.cells, List.cons.injEq, Value.slice.injEq, and_true] at hc3
  obtain ⟨rfl, rfl, rfl⟩ := hc3
  have hL3 : xs3.length ≤ maxLen := hW3.1
  refine (two_law W a0_0 a0_1 a1_0 a1_1 _ _ xs2 _ _ xs3 ha0 hb0 ha1 hb1 hC2 hle2 hWR2.1 (fun x hx => hWR2.2.2 x hx) hC3 hle3 hL3).mono fun e W' ⟨he, bel0⟩ => ?_
  have bel : Below W.heap.size W W' := bel0
  subst he
  exact ⟨_, rfl, _, _, _, [], _, [], hW', trodAll_mk1 (shut_bool Try.underlying4 _), (trodAll_cons_mk (Below.trod laidOut (by kernel_rfl) (of_decide_eq_true (by kernel_rfl)) k0 bel lt0) (trodAll_cons_mk (Below.trod laidOut (by kernel_rfl) (of_decide_eq_true (by kernel_rfl)) k1 bel lt1) (trodAll_cons_mk (Below.trod laidOut (by kernel_rfl) (of_decide_eq_true (by kernel_rfl)) k2 bel lt2) (trodAll_cons_mk (Below.trod laidOut (by kernel_rfl) (of_decide_eq_true (by kernel_rfl)) k3 bel lt3) trodAll_mk0)))), rfl, bel.frame _, fun h => by cases h⟩
theorem over : Rows.ipamTwoRow.holds Try.pinned (OpenSpec.ofChange Rows.ipamTwoSpec) :=
  OpenClaim.holds_of_wide 9 Try.f9 rfl rfl rfl rfl rfl rfl rfl ⟨rfl, rfl, rfl, rfl, rfl⟩ rfl rfl rfl rfl rfl (by kernel_rfl) Try.func9 (by kernel_rfl)
    (of_decide_eq_true (by kernel_rfl)) (by unfold Func.isWrapper; first | (rw [if_pos (by decide +kernel)]; kernel_rfl) | (rw [if_neg (by decide +kernel)]; exact ⟨rfl, rfl⟩))
    (fun os started H enc _ => lifted os started H enc)
theorem proved : Rows.IpamTwoSaid := over
#print axioms proved
end Go.Proofs.Ytgabkifojnkbkaa.ipamTwo
namespace Go.Proofs.Ytgabkifojnkbkaa
/-- The row, under a short name, for the claim. -/
theorem ipamTwo_holds : Rows.IpamTwoSaid := ipamTwo.proved
end Go.Proofs.Ytgabkifojnkbkaa
