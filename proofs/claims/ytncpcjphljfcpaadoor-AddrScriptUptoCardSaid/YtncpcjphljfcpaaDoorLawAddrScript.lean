/- addr's calls in any order, as often as the script says, each answered as the document says, a list written over in place and asked again, answers kept to the end: the statement weftlaw1.AddrScript, up to its bound, tied. -/
import Derived.Test.YtncpcjphljfcpaaDoorCards
import Derived.Test.YtncpcjphljfcpaaDoorTie
import Derived.Test.YtncpcjphljfcpaaDoorLaid2
import Derived.Test.YtncpcjphljfcpaaDoorScPure
import Derived.Test.YtncpcjphljfcpaaDoorXOpen
import Derived.WalkKit
import Derived.ProofKit
import Derived.OpenShut
import Derived.ShutString
import Derived.ChangeOld
import Derived.Below
import Derived.SizedLaws
import Derived.SevenTiedAt
import Derived.Deep.DeepHandedRow
import Derived.Deep.DeepWitnessRowRef
namespace Go.Proofs.YtncpcjphljfcpaaDoor.addrScript
open Go.ChangeShapes Go.WideShapes Go.ChangeAt Go.RowKit Go.Proofs.YtncpcjphljfcpaaDoor.PScr Go.Proofs.YtncpcjphljfcpaaDoorW.PrintWords Go.Proofs.YtncpcjphljfcpaaDoorW.XOpen
open Go.ChangeMaps (open_string shut_string)
set_option linter.unusedVariables false
def W31 (x : S31) : Prop := (fun n => (Lit.int .u32 n).wf = true) x.f0 ∧ ((fun n => (Lit.int .i64 n).wf = true) x.f1)
def m31 (x : S31) : Nat := ((fun _ => 1) x.f0 + ((fun _ => 1) x.f1)) + 1
theorem o31 {B : {H : Type} → DataW H → Nat} {BA : {H : Type} → List (DataW H) → Nat} (hB : IsBulk B BA) : Opens B Tryd.prog 31 k31 W31 m31 :=
  opens_iso (fun x : S31 => (x.f0, x.f1)) (fun a => ⟨⟨a.1, a.2⟩, rfl⟩) (opens_struct hB Tryd.underlying31 [(29, 0), (3, 1)] (by kernel_rfl) (by kernel_rfl) (fields_cons hB (o := 0) (by kernel_rfl) (opens_int hB Tryd.underlying29) (fields_one hB (o := 1) (by kernel_rfl) (opens_int hB Tryd.underlying3))))
def W33 (x : S33) : Prop := (fun n => (Lit.int .u8 n).wf = true) x.f0 ∧ ((fun n => (Lit.int .u8 n).wf = true) x.f1 ∧ ((fun n => (Lit.int .u8 n).wf = true) x.f2 ∧ ((fun n => (Lit.int .u8 n).wf = true) x.f3 ∧ ((fun n => (Lit.int .u8 n).wf = true) x.f4 ∧ ((fun n => (Lit.int .u8 n).wf = true) x.f5)))))
def m33 (x : S33) : Nat := ((fun _ => 1) x.f0 + ((fun _ => 1) x.f1 + ((fun _ => 1) x.f2 + ((fun _ => 1) x.f3 + ((fun _ => 1) x.f4 + ((fun _ => 1) x.f5)))))) + 1
theorem o33 {B : {H : Type} → DataW H → Nat} {BA : {H : Type} → List (DataW H) → Nat} (hB : IsBulk B BA) : Opens B Tryd.prog 33 k33 W33 m33 :=
  opens_iso (fun x : S33 => (x.f0, x.f1, x.f2, x.f3, x.f4, x.f5)) (fun a => ⟨⟨a.1, a.2.1, a.2.2.1, a.2.2.2.1, a.2.2.2.2.1, a.2.2.2.2.2⟩, rfl⟩) (opens_array hB Tryd.underlying33 [(5, 0), (5, 1), (5, 2), (5, 3), (5, 4), (5, 5)] (by kernel_rfl) (by kernel_rfl) (fields_cons hB (o := 0) (by kernel_rfl) (opens_int hB Tryd.underlying5) (fields_cons hB (o := 1) (by kernel_rfl) (opens_int hB Tryd.underlying5) (fields_cons hB (o := 2) (by kernel_rfl) (opens_int hB Tryd.underlying5) (fields_cons hB (o := 3) (by kernel_rfl) (opens_int hB Tryd.underlying5) (fields_cons hB (o := 4) (by kernel_rfl) (opens_int hB Tryd.underlying5) (fields_one hB (o := 5) (by kernel_rfl) (opens_int hB Tryd.underlying5))))))))
def W35 (x : S35) : Prop := (fun n => (Lit.int .u32 n).wf = true) x.f0 ∧ (W31 x.f1 ∧ (W33 x.f2))
def m35 (x : S35) : Nat := ((fun _ => 1) x.f0 + (m31 x.f1 + (m33 x.f2))) + 1
theorem o35 {B : {H : Type} → DataW H → Nat} {BA : {H : Type} → List (DataW H) → Nat} (hB : IsBulk B BA) : Opens B Tryd.prog 35 k35 W35 m35 :=
  opens_iso (fun x : S35 => (x.f0, x.f1, x.f2)) (fun a => ⟨⟨a.1, a.2.1, a.2.2⟩, rfl⟩) (opens_struct hB Tryd.underlying35 [(29, 0), (31, 1), (33, 3)] (by kernel_rfl) (by kernel_rfl) (fields_cons hB (o := 0) (by kernel_rfl) (opens_int hB Tryd.underlying29) (fields_cons hB (o := 1) (by kernel_rfl) (o31 hB) (fields_one hB (o := 3) (by kernel_rfl) (o33 hB)))))
def W45 (x : S45) : Prop := (fun n => (Lit.int .i64 n).wf = true) x.f0 ∧ ((fun s : ByteArray => s.size ≤ 140737488351232) x.f1 ∧ (W35 x.f2 ∧ ((fun n => (Lit.int .u32 n).wf = true) x.f3 ∧ ((fun n => (Lit.int .u32 n).wf = true) x.f4 ∧ (RowOf W31 16 x.f5 ∧ ((fun n => (Lit.int .i64 n).wf = true) x.f6))))))
def m45 (x : S45) : Nat := ((fun _ => 1) x.f0 + ((fun s : ByteArray => s.size + 1) x.f1 + (m35 x.f2 + ((fun _ => 1) x.f3 + ((fun _ => 1) x.f4 + ((fun l => sum m31 l + 1) x.f5 + ((fun _ => 1) x.f6))))))) + 1
theorem o45 {B : {H : Type} → DataW H → Nat} {BA : {H : Type} → List (DataW H) → Nat} (hB : IsBulk B BA) : Opens B Tryd.prog 45 k45 W45 m45 :=
  opens_iso (fun x : S45 => (x.f0, x.f1, x.f2, x.f3, x.f4, x.f5, x.f6)) (fun a => ⟨⟨a.1, a.2.1, a.2.2.1, a.2.2.2.1, a.2.2.2.2.1, a.2.2.2.2.2.1, a.2.2.2.2.2.2⟩, rfl⟩) (opens_struct hB Tryd.underlying45 [(3, 0), (9, 1), (35, 2), (29, 11), (29, 12), (39, 13), (3, 14)] (by kernel_rfl) (by kernel_rfl) (fields_cons hB (o := 0) (by kernel_rfl) (opens_int hB Tryd.underlying3) (fields_cons hB (o := 1) (by kernel_rfl) (opens_string hB Tryd.underlying9) (fields_cons hB (o := 2) (by kernel_rfl) (o35 hB) (fields_cons hB (o := 11) (by kernel_rfl) (opens_int hB Tryd.underlying29) (fields_cons hB (o := 12) (by kernel_rfl) (opens_int hB Tryd.underlying29) (fields_cons hB (o := 13) (by kernel_rfl) (opens_slice hB Tryd.underlying39 (by kernel_rfl) (by kernel_rfl) (o31 hB)) (fields_one hB (o := 14) (by kernel_rfl) (opens_int hB Tryd.underlying3)))))))))

theorem one_leU {H : Type} (d : DataW H) : 1 ≤ Rows.uptoBulk d := by
  cases d with
  | lit l => cases l <;> simp [Rows.uptoBulk]
  | nil => simp [Rows.uptoBulk]
  | ptr d => simp [Rows.uptoBulk]
  | slice elems spare => simp [Rows.uptoBulk]
  | agg parts => simp [Rows.uptoBulk]
  | iface t d => simp [Rows.uptoBulk]
  | map entries => simp [Rows.uptoBulk]
  | held h => simp [Rows.uptoBulk]
theorem isBulkU : IsBulk (fun {H} d => Rows.uptoBulk (H := H) d) (fun {H} l => Rows.uptoBulkAll (H := H) l) where
  str := fun b => by simp [Rows.uptoBulk]
  one := fun l => one_leU _
  nil := one_leU _
  slice := fun e s => by simp only [Rows.uptoBulk]; omega
  agg := fun p => by simp only [Rows.uptoBulk]; omega
  acons := fun d r => by simp only [Rows.uptoBulkAll]; omega
theorem len31 : ∀ (l : List S31), 3 * l.length ≤ Go.Proofs.YtncpcjphljfcpaaDoorW.XOpen.sum m31 l
  | [] => by simp
  | x :: r => by
    have := len31 r
    have e : m31 x = 3 := rfl
    simp only [Go.Proofs.YtncpcjphljfcpaaDoorW.XOpen.sum, List.length_cons, e]
    omega
theorem m45_ge (x : S45) : 19 + x.f1.size + Go.Proofs.YtncpcjphljfcpaaDoorW.XOpen.sum m31 x.f5 ≤ m45 x := by
  have e : m35 x.f2 = 12 := rfl
  unfold m45
  simp only [e]
  omega
theorem len45 : ∀ (l : List S45), 19 * l.length ≤ Go.Proofs.YtncpcjphljfcpaaDoorW.XOpen.sum m45 l
  | [] => by simp
  | x :: r => by
    have := len45 r
    have := m45_ge x
    simp only [Go.Proofs.YtncpcjphljfcpaaDoorW.XOpen.sum, List.length_cons]
    omega
theorem mem_sum {α : Type} (m : α → Nat) : ∀ (l : List α) (x : α), x ∈ l → m x ≤ Go.Proofs.YtncpcjphljfcpaaDoorW.XOpen.sum m l
  | _ :: r, _, .head _ => Nat.le_add_right _ _
  | y :: r, x, .tail _ h => Nat.le_trans (mem_sum m r x h) (Nat.le_add_left _ _)
theorem mem45 (l : List S45) (x : S45) (h : x ∈ l) : m45 x ≤ Go.Proofs.YtncpcjphljfcpaaDoorW.XOpen.sum m45 l := mem_sum m45 l x h
theorem op_ok {x : S45} (h : W45 x) (hm : m45 x ≤ 1048576) : Pure.OpOk x := by
  have hge := m45_ge x
  have h5 := len31 x.f5
  obtain ⟨h0, h1, ⟨ha, ⟨hp0, hp1⟩, hm0, hm1, hm2, hm3, hm4, hm5⟩, h3, h4, hr, h6⟩ := h
  simp [Lit.wf, IntKind.min, IntKind.max, IntKind.bits, IntKind.signed] at h0 ha hp0 hp1 hm0 hm1 hm2 hm3 hm4 hm5 h3 h4 h6
  refine ⟨by omega, by omega, by omega, ?_, ?_, ?_, ?_, ?_, ?_, by omega, by omega, by omega, fun q hq => ?_⟩
  all_goals first | (unfold byteIn; omega) | skip
  have hq1 := (hr.2.2 q hq).1
  simp [Lit.wf, IntKind.min, IntKind.max, IntKind.bits, IntKind.signed] at hq1
  unfold Pure.U32
  omega
theorem own : ownKnob Tryd.prog.godebug = none := by kernel_rfl
theorem laidOut : laidOutB Tryd.prog = true := by kernel_rfl
theorem reads (os : Os) {H : Type} (enc : TypeId × Value → H) : ∃ places, DataW.whole enc Tryd.prog ((World.doorLaid Tryd.prog 400 os).forCall (fun _ _ => 0) ⟨#[], #[.slice none 0 0], []⟩).memory Tryd.f5.params.toList Rows.addrScriptSpec.vars false #[Value.slice none 0 0].toList 8 = some ([.nil], [], places) :=
  ⟨[], by kernel_rfl⟩
set_option maxRecDepth 100000 in
theorem lifted (os : Os) (started : os.Started) (H : Type) (enc : TypeId × Value → H) (F : Stop.Interp) :
    ReturnsInHanded {} Tryd.checked os 5 .any ((Rows.OpenSpec.upto Rows.addrScriptSpec).preRow enc Tryd.prog Tryd.f5 Rows.addrScriptUptoRow.domain false Rows.addrScriptUptoRow.laid) (((Rows.OpenSpec.upto Rows.addrScriptSpec).at F).post enc Tryd.prog Tryd.f5 false true false false) := by
  obtain ⟨places, hx⟩ := reads os enc
  refine returnsInHanded_of_row (C := Tryd.checked) (s := Rows.OpenSpec.upto Rows.addrScriptSpec) own started (by kernel_rfl) Tryd.func5
    (witness_row_atRef (enc := enc) (C := Tryd.checked) false (World.doorLaid Tryd.prog 400 os) #[.slice none 0 0] rfl (by kernel_rfl) (by kernel_rfl) (by kernel_rfl)
      (OpenSpec.preRow_of_cond 8 hx (by kernel_rfl) (fun k hk => by cases hk; kernel_rfl) (by kernel_rfl) (door_met4 os _))) ?_
  intro W base args ds gs before hval0 hW _ hcond hsz0 hL _ _
  have hPT := both_of_laid hL
  have hsz : (DataW.weightsEach Tryd.prog (Tryd.f5.params.toList ++ Rows.addrScriptSpec.plain.varTypes Tryd.prog) (ds ++ gs)).all (· ≤ reachBytes) = true := hsz0
  have hk : Rows.uptoSmall H (ds ++ gs) = true := hcond _ rfl
  have hval : ∀ (j : Nat) t v, Tryd.f5.params[j]? = some t → args[j]? = some v → Value.okWide Tryd.prog W .any base t v := hval0
  have hW' := hW
  obtain ⟨p, q, hA0, hV, rfl, hfz, hnd⟩ := hW
  have hA : DataW.TrodAll enc Tryd.prog W 0 (fun _ => true) true Tryd.f5.params.toList args.toList ds p := hA0
  rw [Tryd.params5] at hA hval hsz
  have hB := isBulkU
  obtain ⟨v0, vs0, d0, ds0, p0, q0, hargs, rfl, rfl, h0, r0⟩ := trodAll_cons hA
  obtain ⟨rfl, rfl, rfl⟩ := trodAll_nil r0
  obtain rfl : args = #[v0] := by cases args; simp_all
  obtain ⟨rfl, rfl⟩ := trodVars_none hV
  obtain ⟨w0, len0, cap0, rfl⟩ := okWide_slice Tryd.underlying37 (hval 0 37 v0 rfl rfl)
  have k0 := h0
  have lt0 : ∀ x ∈ p0, x.block < W.heap.size := by obtain ⟨m, hm⟩ := k0; exact DataW.trod_lt m _ _ _ hm
  obtain ⟨l0, hK0, hW0, hM0⟩ := open_arg (opens_slice (bytes := 96) hB Tryd.underlying37 (by kernel_rfl) (by kernel_rfl) (o45 hB)) h0 hsz (j := 0) rfl rfl
  obtain ⟨A0, c0, hc0, hle0, hC0⟩ := hK0
  simp only [Value.cells, List.cons.injEq, Value.slice.injEq, and_true] at hc0
  obtain ⟨rfl, rfl, rfl⟩ := hc0
  have hb : Rows.uptoBulkAll ([d0] ++ ([] : List (DataW H))) ≤ 1048576 := of_decide_eq_true hk
  have hb2 : Rows.uptoBulk d0 ≤ 1048576 := by
    simp only [List.append_nil, Rows.uptoBulkAll] at hb
    omega
  have hls := len45 l0
  have hW1 : RowOf W45 96 l0 := hW0
  have hsum : Go.Proofs.YtncpcjphljfcpaaDoorW.XOpen.sum m45 l0 ≤ 1048576 := by
    have : Go.Proofs.YtncpcjphljfcpaaDoorW.XOpen.sum m45 l0 + 1 ≤ Rows.uptoBulk d0 := hM0
    omega
  obtain ⟨kr, hP⟩ := Pure.AddrScriptP l0 (fun o ho => op_ok (hW1.2.2 o ho) (Nat.le_trans (mem45 l0 o ho) hsum)) (by omega)
  refine (weftlaw1_AddrScript.calls kr _ _ l0 true W hPT.1 hPT.2 hC0 hle0 (by omega) hP).mono fun e W' ⟨he, bel0⟩ => ?_
  have bel : Below W.heap.size W W' := bel0
  subst he
  exact ⟨_, rfl, _, _, _, [], _, [], hW', trodAll_mk1 (shut_bool Tryd.underlying4 _), (trodAll_cons_mk (Below.trod laidOut (by kernel_rfl) (of_decide_eq_true (by kernel_rfl)) k0 bel lt0) trodAll_mk0), rfl, bel.frame _, fun h => by cases h⟩
theorem over : Rows.AddrScriptUptoSaid :=
  OpenClaim.holds_of_cond 5 Tryd.f5 rfl rfl rfl rfl rfl rfl rfl ⟨rfl, rfl, rfl, rfl, rfl⟩ rfl rfl rfl rfl rfl (by kernel_rfl) Tryd.func5 (by kernel_rfl)
    (of_decide_eq_true (by kernel_rfl)) (by unfold Func.isWrapper; first | (rw [if_pos (by decide +kernel)]; kernel_rfl) | (rw [if_neg (by decide +kernel)]; exact ⟨rfl, rfl⟩))
    (fun os started H enc _ F => by rw [OpenClaim.pre_eq_preRow]; exact lifted os started H enc F)
end Go.Proofs.YtncpcjphljfcpaaDoor.addrScript
namespace Go.Proofs.YtncpcjphljfcpaaDoor
/-- THE TIED CARD of the second form. -/
theorem addrScript_uptoCard : Rows.AddrScriptUptoCardSaid :=
  Claim7.holds_tied_plain_at .later [] _ _ _ _
    addrScript.over (fun _ h => by cases h) (by kernel_rfl) (fun _ h => by cases h) addrScriptUpto_row_tie rfl ⟨rfl, rfl⟩ (by kernel_rfl) rfl
    (fun f fn hf hfn => by
      obtain rfl : f = 5 := Option.some.inj ((show Tryd.prog.funcNamed "weft/weftlaw1.AddrScript" = some 5 by kernel_rfl).symm.trans hf) |>.symm
      obtain rfl : fn = Tryd.f5 := (Option.some.inj (Tryd.func5.symm.trans hfn)).symm
      exact ⟨by kernel_rfl, fun j t ht => by
        rw [Tryd.params5] at ht
        have hm : t ∈ [37] := by simpa using Array.mem_of_getElem? ht
        have hall : ([37].all fun u => !Tryd.prog.wantsStandIn u) = true := by kernel_rfl
        exact (show Tryd.prog.wantsStandIn t = false by simpa using List.all_eq_true.1 hall t hm)⟩)
    (by kernel_rfl)
end Go.Proofs.YtncpcjphljfcpaaDoor
