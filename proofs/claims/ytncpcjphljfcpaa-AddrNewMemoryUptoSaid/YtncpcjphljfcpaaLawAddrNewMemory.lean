/- Lists that Cover and Merge gave are the caller's own, spare room too; asked again both give the same; where what comes in is of bulk at most 1048576. The statement weftlaw1.AddrNewMemory, up to its bound. -/
import Derived.Test.YtncpcjphljfcpaaRows
import Derived.Test.YtncpcjphljfcpaaNmF
import Derived.WalkKit
import Derived.ProofKit
import Derived.OpenShut
import Derived.ShutString
import Derived.ChangeOld
import Derived.Below
import Derived.SizedLaws
import Derived.JoinedCond
import Derived.Deep.CondSized
namespace Go.Proofs.Ytncpcjphljfcpaa.addrNewMemory
open Go.ChangeShapes Go.WideShapes Go.ChangeAt Go.RowKit Go.Proofs.Ytncpcjphljfcpaa.PNmm Go.Proofs.YtncpcjphljfcpaaW.PrintWords Go.Proofs.YtncpcjphljfcpaaW.XOpen
open Go.ChangeMaps (open_string shut_string)
set_option linter.unusedVariables false
def W32 (x : S32) : Prop := (fun n => (Lit.int .u32 n).wf = true) x.f0 ∧ ((fun n => (Lit.int .i64 n).wf = true) x.f1)
def m32 (x : S32) : Nat := ((fun _ => 1) x.f0 + ((fun _ => 1) x.f1)) + 1
theorem o32 {B : {H : Type} → DataW H → Nat} {BA : {H : Type} → List (DataW H) → Nat} (hB : IsBulk B BA) : Opens B Try.prog 32 k32 W32 m32 :=
  opens_iso (fun x : S32 => (x.f0, x.f1)) (fun a => ⟨⟨a.1, a.2⟩, rfl⟩) (opens_struct hB Try.underlying32 [(23, 0), (3, 1)] (by kernel_rfl) (by kernel_rfl) (fields_cons hB (o := 0) (by kernel_rfl) (opens_int hB Try.underlying23) (fields_one hB (o := 1) (by kernel_rfl) (opens_int hB Try.underlying3))))

theorem one_leU {H : Type} (d : DataW H) : 1 ≤ Rows.uptoBulk d := by
  cases d with
  | lit l => cases l <;> simp [Rows.uptoBulk]
  | nil => simp [Rows.uptoBulk]
  | ptr d => simp [Rows.uptoBulk]
  | slice elems spare => simp [Rows.uptoBulk]
  | agg parts => simp [Rows.uptoBulk]
  | iface t d => simp [Rows.uptoBulk]
  | map entries => simp [Rows.uptoBulk]
  | held h => simp [Rows.uptoBulk]
theorem isBulkU : IsBulk (fun {H} d => Rows.uptoBulk (H := H) d) (fun {H} l => Rows.uptoBulkAll (H := H) l) where
  str := fun b => by simp [Rows.uptoBulk]
  one := fun l => one_leU _
  nil := one_leU _
  slice := fun e s => by simp only [Rows.uptoBulk]; omega
  agg := fun p => by simp only [Rows.uptoBulk]; omega
  acons := fun d r => by simp only [Rows.uptoBulkAll]; omega
theorem len_sum : ∀ (l : List S32), 3 * l.length ≤ Go.Proofs.YtncpcjphljfcpaaW.XOpen.sum m32 l
  | [] => by simp
  | x :: r => by
    have := len_sum r
    have e : m32 x = 3 := rfl
    simp only [Go.Proofs.YtncpcjphljfcpaaW.XOpen.sum, List.length_cons, e]
    omega
theorem own : ownKnob Try.prog.godebug = none := by kernel_rfl
theorem laidOut : laidOutB Try.prog = true := by kernel_rfl
set_option maxRecDepth 100000 in
theorem lifted (os : Os) (started : os.Started) (H : Type) (enc : TypeId × Value → H) (F : Stop.Interp) :
    ReturnsInHanded {} Try.checked os 8 .any ((Rows.OpenSpec.upto Rows.addrNewMemorySpec).pre6 enc Try.prog Try.f8 Rows.addrNewMemoryUptoRow.domain false) (((Rows.OpenSpec.upto Rows.addrNewMemorySpec).at F).post enc Try.prog Try.f8 false true false false) := by
  refine returnsInHanded_of_cond_sized (C := Try.checked) (s := Rows.OpenSpec.upto Rows.addrNewMemorySpec) (k := Rows.uptoSmall) rfl own started (by kernel_rfl) Try.func8
    (OpenSpec.witness (enc := enc) (C := Try.checked) (s := Rows.OpenSpec.upto Rows.addrNewMemorySpec) (k := Rows.uptoSmall) rfl false ⟨#[], #[.int .u32 0, .int .u32 0, .slice none 0 0], []⟩ 8 (by kernel_rfl) (by kernel_rfl) (by kernel_rfl)
      (x := ([.lit (.int .u32 0), .lit (.int .u32 0), .nil], [], [])) (by kernel_rfl) rfl (by kernel_rfl)) ?_
  intro W base args ds gs before hval0 hW hcnd hk hsz0 _
  have hsz : (DataW.weightsEach Try.prog (Try.f8.params.toList ++ Rows.addrNewMemorySpec.plain.varTypes Try.prog) (ds ++ gs)).all (· ≤ reachBytes) = true := hsz0
  have hval : ∀ (j : Nat) t v, Try.f8.params[j]? = some t → args[j]? = some v → Value.okWide Try.prog W .any base t v := hval0
  have hW' := hW
  obtain ⟨p, q, hA0, hV, rfl, hfz, hnd⟩ := hW
  have hA : DataW.TrodAll enc Try.prog W 0 (fun _ => true) true Try.f8.params.toList args.toList ds p := hA0
  rw [Try.params8] at hA hval hsz
  have hB := isBulkU
  obtain ⟨v0, vs0, d0, ds0, p0, q0, hargs, rfl, rfl, h0, r0⟩ := trodAll_cons hA
  obtain ⟨v1, vs1, d1, ds1, p1, q1, rfl, rfl, rfl, h1, r1⟩ := trodAll_cons r0
  obtain ⟨v2, vs2, d2, ds2, p2, q2, rfl, rfl, rfl, h2, r2⟩ := trodAll_cons r1
  obtain ⟨rfl, rfl, rfl⟩ := trodAll_nil r2
  obtain rfl : args = #[v0, v1, v2] := by cases args; simp_all
  obtain ⟨rfl, rfl⟩ := trodVars_none hV
  obtain ⟨a0, rfl, rfl, rfl, w0⟩ := open_int Try.underlying23 (hval 0 23 v0 rfl rfl) h0
  obtain ⟨a1, rfl, rfl, rfl, w1⟩ := open_int Try.underlying23 (hval 1 23 v1 rfl rfl) h1
  obtain ⟨w2, len2, cap2, rfl⟩ := okWide_slice Try.underlying25 (hval 2 25 v2 rfl rfl)
  have k2 := h2
  have lt2 : ∀ x ∈ p2, x.block < W.heap.size := by obtain ⟨m, hm⟩ := k2; exact DataW.trod_lt m _ _ _ hm
  obtain ⟨l0, hK0, hW0, hM0⟩ := open_arg (opens_slice hB Try.underlying25 (by kernel_rfl) (by kernel_rfl) (o32 hB)) h2 hsz (j := 2) rfl rfl
  obtain ⟨A0, c0, hc0, hle0, hC0⟩ := hK0
  simp only [Value.cells, List.cons.injEq, Value.slice.injEq, and_true] at hc0
  obtain ⟨rfl, rfl, rfl⟩ := hc0
  have hb : Rows.uptoBulkAll ([.lit (.int .u32 a0), .lit (.int .u32 a1), d2] ++ ([] : List (DataW H))) ≤ 1048576 := of_decide_eq_true hk
  have hb2 : Rows.uptoBulk d2 ≤ 1048576 := by
    simp only [List.append_nil, Rows.uptoBulkAll] at hb
    omega
  have hls := len_sum l0
  have hW1 : RowOf W32 16 l0 := hW0
  have u32 : ∀ {z : Int}, (Lit.int .u32 z).wf = true → 0 ≤ z ∧ z < 4294967296 := fun {z} h => by
    simp [Lit.wf, IntKind.min, IntKind.max, IntKind.bits, IntKind.signed] at h
    omega
  refine (Nm.newmem8 W a0 a1 _ _ l0 (u32 w0).1 (u32 w1).2 (fun p hp => u32 (hW1.2.2 p hp).1) hC0 hle0 (by omega)).mono fun e W' ⟨he, bel0⟩ => ?_
  have bel : Below W.heap.size W W' := bel0
  subst he
  exact ⟨_, rfl, _, _, _, [], _, [], hW', trodAll_mk1 (shut_bool Try.underlying4 _), (trodAll_cons_mk (shut_int Try.underlying23 w0) (trodAll_cons_mk (shut_int Try.underlying23 w1) (trodAll_cons_mk (Below.trod laidOut (by kernel_rfl) (of_decide_eq_true (by kernel_rfl)) k2 bel lt2) trodAll_mk0))), rfl, bel.frame _, fun h => by cases h⟩
theorem proved : Rows.AddrNewMemoryUptoSaid :=
  OpenClaim.holds_of_cond 8 Try.f8 rfl rfl rfl rfl rfl rfl rfl ⟨rfl, rfl, rfl, rfl, rfl⟩ rfl rfl rfl rfl rfl (by kernel_rfl) Try.func8 (by kernel_rfl)
    (of_decide_eq_true (by kernel_rfl)) (by unfold Func.isWrapper; first | (rw [if_pos (by decide +kernel)]; kernel_rfl) | (rw [if_neg (by decide +kernel)]; exact ⟨rfl, rfl⟩))
    (fun os started H enc _ F => lifted os started H enc F)
#print axioms proved
end Go.Proofs.Ytncpcjphljfcpaa.addrNewMemory
namespace Go.Proofs.Ytncpcjphljfcpaa
/-- The row, under a short name, for the claim. -/
theorem addrNewMemory_upto : Rows.AddrNewMemoryUptoSaid := addrNewMemory.proved
end Go.Proofs.Ytncpcjphljfcpaa
