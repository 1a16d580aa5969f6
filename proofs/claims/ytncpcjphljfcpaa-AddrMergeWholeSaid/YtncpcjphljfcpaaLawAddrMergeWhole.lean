-- written by xp.sh, a program of this seat's session
import Derived.Test.YtncpcjphljfcpaaRows
import Derived.Test.YtncpcjphljfcpaaStAddrMergeWhole
import Derived.Test.YtncpcjphljfcpaaPureAddrMergeWhole
import Derived.WalkKit
import Derived.ProofKit
import Derived.OpenShut
import Derived.ShutString
import Derived.ChangeOld
import Derived.Below
import Derived.SizedLaws
namespace Go.Proofs.Ytncpcjphljfcpaa.addrMergeWhole
open Go.ChangeShapes Go.WideShapes Go.ChangeAt Go.RowKit Go.Proofs.Ytncpcjphljfcpaa.PMrg Go.Proofs.YtncpcjphljfcpaaW.PrintWords Go.Proofs.YtncpcjphljfcpaaW.XOpen
open Go.ChangeMaps (open_string shut_string)
set_option linter.unusedVariables false
theorem own : ownKnob Try.prog.godebug = none := by kernel_rfl
theorem laidOut : laidOutB Try.prog = true := by kernel_rfl
set_option maxRecDepth 100000 in
theorem lifted (os : Os) (started : os.Started) (H : Type) (enc : TypeId × Value → H) :
    ReturnsInHanded {} Try.checked os 7 .any (Rows.addrMergeWholeSpec.pre6 enc Try.prog Try.f7 Rows.addrMergeWholeRow.domain false) (Rows.addrMergeWholeSpec.post enc Try.prog Try.f7 false true false false) := by
  refine returnsInHanded_of_change_sized (C := Try.checked) own started (by kernel_rfl) Try.func7
    (ChangeSpec.witness6 (enc := enc) (C := Try.checked) false ⟨#[], #[.slice none 0 0, .int .u32 0], []⟩ 8 (by kernel_rfl) (by kernel_rfl) (by kernel_rfl) (by kernel_rfl)) ?_
  intro W base args ds gs before hval0 hW hcnd hsz0 _
  have hsz : (DataW.weightsEach Try.prog (Try.f7.params.toList ++ Rows.addrMergeWholeSpec.plain.varTypes Try.prog) (ds ++ gs)).all (· ≤ reachBytes) = true := hsz0
  have hval : ∀ (j : Nat) t v, Try.f7.params[j]? = some t → args[j]? = some v → Value.okWide Try.prog W .any base t v := hval0
  have hW' := hW
  obtain ⟨p, q, hA0, hV, rfl, hfz, hnd⟩ := hW
  have hA : DataW.TrodAll enc Try.prog W 0 (fun _ => true) true Try.f7.params.toList args.toList ds p := hA0
  rw [Try.params7] at hA hval hsz
  obtain ⟨B, BA, hB⟩ := isBulk_any
  obtain ⟨v0, vs0, d0, ds0, p0, q0, hargs, rfl, rfl, h0, r0⟩ := trodAll_cons hA
  obtain ⟨v1, vs1, d1, ds1, p1, q1, rfl, rfl, rfl, h1, r1⟩ := trodAll_cons r0
  obtain ⟨rfl, rfl, rfl⟩ := trodAll_nil r1
  obtain rfl : args = #[v0, v1] := by cases args; simp_all
  obtain ⟨rfl, rfl⟩ := trodVars_none hV
  obtain ⟨w0, len0, cap0, rfl⟩ := okWide_slice Try.underlying25 (hval 0 25 v0 rfl rfl)
  have k0 := h0
  have lt0 : ∀ x ∈ p0, x.block < W.heap.size := by obtain ⟨m, hm⟩ := k0; exact DataW.trod_lt m _ _ _ hm
  obtain ⟨l0, hK0, hW0, _⟩ := open_arg (B := B) (opens_slice hB Try.underlying25 (by kernel_rfl) (by kernel_rfl) (o32 hB)) h0 hsz (j := 0) rfl rfl
  obtain ⟨A0, c0, hc0, hle0, hC0⟩ := hK0
  simp only [Value.cells, List.cons.injEq, Value.slice.injEq, and_true] at hc0
  obtain ⟨rfl, rfl, rfl⟩ := hc0
  obtain ⟨a1, rfl, rfl, rfl, hW1⟩ := open_int Try.underlying23 (hval 1 23 v1 rfl rfl) h1
  obtain ⟨kr, hP⟩ := Pure.AddrMergeWhole l0 a1 hW0 hW1
  refine (weftlaw1_AddrMergeWhole.calls kr _ _ l0 a1 true W hC0 hle0 hP).mono fun e W' ⟨he, bel0⟩ => ?_
  have bel : Below W.heap.size W W' := bel0
  subst he
  exact ⟨_, rfl, _, _, _, [], _, [], hW', trodAll_mk1 (shut_bool Try.underlying4 _), (trodAll_cons_mk (Below.trod laidOut (by kernel_rfl) (of_decide_eq_true (by kernel_rfl)) k0 bel lt0) (trodAll_cons_mk (shut_int Try.underlying23 hW1) trodAll_mk0)), rfl, bel.frame _, fun h => by cases h⟩
theorem over : Rows.addrMergeWholeRow.holds Try.pinned (OpenSpec.ofChange Rows.addrMergeWholeSpec) :=
  OpenClaim.holds_of_wide 7 Try.f7 rfl rfl rfl rfl rfl rfl rfl ⟨rfl, rfl, rfl, rfl, rfl⟩ rfl rfl rfl rfl rfl (by kernel_rfl) Try.func7 (by kernel_rfl)
    (of_decide_eq_true (by kernel_rfl)) (by unfold Func.isWrapper; first | (rw [if_pos (by decide +kernel)]; kernel_rfl) | (rw [if_neg (by decide +kernel)]; exact ⟨rfl, rfl⟩))
    (fun os started H enc _ => lifted os started H enc)
theorem proved : Rows.AddrMergeWholeSaid := over
#print axioms proved
end Go.Proofs.Ytncpcjphljfcpaa.addrMergeWhole
namespace Go.Proofs.Ytncpcjphljfcpaa
/-- The row, under a short name, for the claim. -/
theorem addrMergeWhole_holds : Rows.AddrMergeWholeSaid := addrMergeWhole.proved
end Go.Proofs.Ytncpcjphljfcpaa
