/- The document's answer walked: List. No condition beyond the state's own. -/
import Derived.Test.YtgabkifojnkbkaaIpmU
set_option linter.unusedVariables false
set_option linter.unusedSimpArgs false
namespace Go.Proofs.Ytgabkifojnkbkaa.Ip
open Go.RowKit Go.Maps Go.WideMaps Go.MapKept Go.Proofs.YtgabkifojnkbkaaW.PrintWords Go.Proofs.Ytgabkifojnkbkaa.PIpf
def swapP (l : List Pod) (j : Nat) : List Pod := (l.set (j + 1) (podAt l j)).set j (podAt l (j + 1))
def bubble : Nat → List Pod → List Pod
  | 0, l => l
  | j + 1, l => if (podAt l (j + 1)).2 < (podAt l j).2 then bubble j (swapP l j) else l
def insF (l : List Pod) (p : Pod) : List Pod := bubble l.length (l ++ [p])
def rlistF (l : List Pod) : List Pod := l.foldl insF []
theorem swapP_length (l : List Pod) (j : Nat) : (swapP l j).length = l.length := by simp [swapP]
theorem bubble_length : ∀ (j : Nat) (l : List Pod), (bubble j l).length = l.length
  | 0, _ => rfl
  | j + 1, l => by
    rw [bubble]
    split
    · rw [bubble_length, swapP_length]
    · rfl
theorem insF_length (l : List Pod) (p : Pod) : (insF l p).length = l.length + 1 := by rw [insF, bubble_length]; simp
theorem rlistF_length (l : List Pod) : (rlistF l).length = l.length := by
  have h : ∀ (l acc : List Pod), (l.foldl insF acc).length = acc.length + l.length := by
    intro l
    induction l with
    | nil => intro acc; rfl
    | cons p r ih => intro acc; rw [List.foldl_cons, ih, insF_length, List.length_cons]; omega
  simpa [rlistF] using h l []
theorem take_snoc (l : List Pod) (i : Nat) (hi : i < l.length) : (l.take (i + 1)).foldl insF [] = insF ((l.take i).foldl insF []) (podAt l i) := by
  rw [List.take_succ_eq_append_getElem hi, List.foldl_append]
  simp [podAt, List.getD_eq_getElem?_getD, List.getElem?_eq_getElem hi]
theorem pod_atN {w : World} {base g n cap : Nat} {l : List Pod} (h : w.ownsRow base 84 2 (.slice (some ⟨g, 0, none⟩) n cap) n (podCells l)) (i : Nat) (hi : i < l.length) :
    w.cell? ⟨g, i * 2, none⟩ = some (.string (podAt l i).1) ∧ w.cell? ⟨g, i * 2 + 1, none⟩ = some (.int .u32 (podAt l i).2) := by
  obtain ⟨h1, h2⟩ := podCells_at l i hi
  have a := h.cells (g := g) rfl _ _ h1
  have b := h.cells (g := g) rfl _ _ h2
  rw [add_plain] at a b
  exact ⟨a, b⟩
/-- two cells of a row of pods are written -/
theorem pod_set {w : World} {base g n cap : Nat} {l : List Pod} (h : w.ownsRow base 84 2 (.slice (some ⟨g, 0, none⟩) n cap) n (podCells l)) (j : Nat) (hj : j < l.length) (p : Pod) :
    ((w.setCell ⟨g, j * 2, none⟩ (.string p.1)).setCell ⟨g, j * 2 + 1, none⟩ (.int .u32 p.2)).ownsRow base 84 2 (.slice (some ⟨g, 0, none⟩) n cap) n (podCells (l.set j p)) := by
  have h1 := (h.stored (j * 2) (.string p.1)).1
  have h2 := (h1.stored (j * 2 + 1) (.int .u32 p.2)).1
  have e : ∀ (l : List Pod) (j : Nat), j < l.length → ((podCells l).set (j * 2) (.string p.1)).set (j * 2 + 1) (.int .u32 p.2) = podCells (l.set j p) := by
    intro l
    induction l with
    | nil => intro j hj; simp at hj
    | cons q r ih =>
      intro j hj
      have e0 : podCells (q :: r) = .string q.1 :: .int .u32 q.2 :: podCells r := rfl
      cases j with
      | zero => rfl
      | succ j =>
        rw [e0, show (j + 1) * 2 = j * 2 + 1 + 1 from by omega, List.set_cons_succ, List.set_cons_succ, List.set_cons_succ, List.set_cons_succ, ih j (by simpa using hj)]
        rfl
  rwa [e l j hj] at h2
set_option maxHeartbeats 16000000 in
set_option maxRecDepth 100000 in
theorem rlist (w : World) (B : Nat) (vp : Value) (R : RfM) (hl : R.pods.length ≤ 1024) (hr : ∀ p, p ∈ R.pods → 0 ≤ p.2 ∧ p.2 < 4294967296) (HS : RfS w B vp R) :
    Calls Try.prog 42 #[.pointer (some ⟨B, 0, none⟩)] w fun e w' => ∃ v, e = .returned v ∧ w'.ownsRow w.heap.size 84 2 v (rlistF R.pods).length (podCells (rlistF R.pods)) ∧ Below w.heap.size w w' := by
  obtain ⟨Ap, cp, rfl⟩ := own_slice HS.row
  have HSS := Aside0.mk HS
  have HL := Aside0.mk hl
  clear HS
  go_enter Try.func42, Try.ntmps42
  go_wp2
  go_loopw [3, 4] (fun vl vi wr => ∃ (i : Nat), vi = .int .i64 i ∧ i ≤ R.pods.length ∧ Aside0 (wr.ownsRow w.heap.size 84 2 vl i (podCells ((R.pods.take i).foldl insF []))) ∧ Aside0 (Below w.heap.size w wr)) (fun _ vi _ => R.pods.length - (intOf vi).toNat)
  case atStart => exact ⟨0, rfl, by omega, ⟨own_nil _ _ _ _⟩, ⟨Below.refl _ _⟩⟩
  case round =>
    obtain ⟨i, rfl, hi, HO, HB⟩ := hrel
    have HS1 := Aside0.mk (HSS.out.below HB.out)
    have k2 : wr.cell? ⟨B, 2, none⟩ = some (.slice Ap R.pods.length cp) := HS1.out.cell 2
    by_cases hlt : i < R.pods.length
    · have hli : (i : Int) < (R.pods.length : Int) := by omega
      obtain ⟨g, cap, e, _, _⟩ := HS1.out.row.form (by omega)
      injection e with e1 e2 e3
      subst e1 e3
      clear e2
      obtain ⟨hc0, hc1⟩ := pod_at HS1.out.row i hlt
      have hts := take_snoc R.pods i hlt
      have hpin := hr (podAt R.pods i) (by simp only [podAt, List.getD_eq_getElem?_getD, List.getElem?_eq_getElem hlt, Option.getD_some]; exact List.getElem_mem hlt)
      have HTS := Aside0.mk hts
      have HPIN := Aside0.mk hpin
      clear hts hpin
      have hlen : ((R.pods.take i).foldl insF []).length = i := by have := rlistF_length (R.pods.take i); rw [rlistF] at this; rw [this, List.length_take]; omega
      generalize (R.pods.take i).foldl insF [] = li at *
      generalize podAt R.pods i = pd at *
      obtain ⟨nm, ad⟩ := pd
      simp only at hc0 hc1
      obtain ⟨A3, c3, rfl⟩ := own_slice HO.out
      have HLEN := Aside0.mk hlen
      clear hlen
      go_wp2_with (first | ((with_reducible refine gate_builtin (b := .append) (xs := #[.tmp 16, .tmp 24]) rfl ?_); at_builtin
                            refine print_append_cells (w0 := w) w.heap.size rfl (.tmp 16) (.tmp 24) 45 84 _ 2 24 rfl Try.underlying45 info84 rfl (by omega) (by omega) (.slice A3 i c3) i (podCells li) [.string nm, .int .u32 ad] rfl rfl rfl (by intro u hu; simp at hu; rcases hu with rfl | rfl <;> rfl) HO.out HB.out HB.out.size (by have := HL.out; omega) ?_
                            intro v1 w1 ho hb hg hat
                            have HO1 : Aside0 (w1.ownsRow w.heap.size 84 2 v1 (i + 1) (podCells (li ++ [(nm, ad)]))) := ⟨by rw [podCells_append]; exact ho⟩
                            have HB1 := Aside0.mk hb
                            clear ho hb hg hat) | go_in)
      obtain ⟨g1, c4, rfl, hg1, hg1l⟩ := HO1.out.form (by omega)
      clear HO HB HS1 k2 hc0 hc1
      have HG1 := Aside0.mk hg1
      have hins : bubble i (li ++ [(nm, ad)]) = insF li (nm, ad) := by rw [insF, HLEN.out]
      have HINS := Aside0.mk hins
      have hall : ∀ (l : List Pod), l.length = i + 1 → True := fun _ _ => trivial
      clear hins hall hg1
      go_loopw [5] (fun vj wr2 => ∃ (j : Nat) (lj : List Pod), vj = .int .i64 j ∧ j ≤ i ∧ lj.length = i + 1 ∧ Aside0 (wr2.ownsRow w.heap.size 84 2 (.slice (some ⟨g1, 0, none⟩) (i + 1) c4) (i + 1) (podCells lj)) ∧ Aside0 (Below w.heap.size w wr2) ∧ Aside0 (bubble j lj = insF li (nm, ad))) (fun vj _ => (intOf vj).toNat)
      case atStart => exact ⟨i, li ++ [(nm, ad)], rfl, Nat.le_refl _, by simp [HLEN.out], HO1, HB1, HINS⟩
      case round =>
        clear HO1 HB1 HINS hg1l
        obtain ⟨j, lj, rfl, hj, hlj, HO, HB, HK⟩ := hrel
        cases j with
        | zero =>
          have HKK : Aside0 (lj = insF li (nm, ad)) := ⟨HK.out⟩
          clear HK
          go_wp2
          go_quiet (fail)
          go_wp2
          go_roundw
          case rel => exact ⟨i + 1, by go_num, by omega, ⟨by rw [HTS.out, ← HKK.out]; exact HO.out⟩, ⟨pw_below_drewN HB.out _⟩⟩
          case measure => simp [intOf]; omega
        | succ m =>
          rw [show ((m + 1 : Nat) : Int) = (m : Int) + 1 from by omega]
          have hm0 : (0 : Int) < (m : Int) + 1 := by omega
          have hmi : (m : Int) + 1 < (i : Int) + 1 := by omega
          have hmi2 : (m : Int) < (i : Int) + 1 := by omega
          have hrow := pod_atN HO.out (m + 1) (by omega)
          obtain ⟨c10, c11⟩ := hrow
          obtain ⟨c00, c01⟩ := pod_atN HO.out m (by omega)
          have fz := fun j => HO.out.frozenAt (g := g1) j
          have hbub : bubble (m + 1) lj = if (podAt lj (m + 1)).2 < (podAt lj m).2 then bubble m (swapP lj m) else lj := rfl
          rw [HK.out] at hbub
          by_cases hlt2 : (podAt lj (m + 1)).2 < (podAt lj m).2
          · rw [if_pos hlt2] at hbub
            have HBUB := Aside0.mk hbub
            have hlsw : (swapP lj m).length = i + 1 := by rw [swapP_length]; exact hlj
            have HLSW := Aside0.mk hlsw
            have hpq := Aside0.mk (fun (wq : World) (ho : wq.ownsRow w.heap.size 84 2 (.slice (some ⟨g1, 0, none⟩) (i + 1) c4) (i + 1) (podCells lj)) =>
              (show _ ∧ _ ∧ _ from ⟨pod_atN ho (m + 1) (by omega), pod_atN ho m (by omega), pod_set (pod_set ho (m + 1) (by omega) (podAt lj m)) m (by simp; omega) (podAt lj (m + 1))⟩))
            clear hbub HK fz hlsw hlj c10 c00
            have hsl : (((lj.set (m + 1) (podAt lj m)).set m (podAt lj (m + 1)))) = swapP lj m := rfl
            rw [hsl] at hpq
            clear hsl
            generalize swapP lj m = sl at *
            generalize podAt lj (m + 1) = p1 at *
            generalize podAt lj m = p0 at *
            obtain ⟨s1, a1⟩ := p1
            obtain ⟨s0, a0⟩ := p0
            simp only at c11 c01 hlt2 hpq
            go_wp2
            go_quiet (fail)
            obtain ⟨wq, hq⟩ : ∃ wq, wq = wr.drewN nq := ⟨_, rfl⟩
            rw [← hq]
            have HOq : Aside0 (wq.ownsRow w.heap.size 84 2 (.slice (some ⟨g1, 0, none⟩) (i + 1) c4) (i + 1) (podCells lj)) := ⟨by rw [hq]; exact HO.out⟩
            have HBq : Aside0 (Below w.heap.size w wq) := ⟨by rw [hq]; exact pw_below_drewN HB.out _⟩
            clear hq c11 c01 HO HB
            obtain ⟨⟨c10, c11⟩, ⟨c00, c01⟩, hsw⟩ := hpq.out wq HOq.out
            have f1 := HOq.out.frozenAt (g := g1) ((m + 1) * 2)
            have f2 := HOq.out.frozenAt (g := g1) ((m + 1) * 2 + 1)
            have f3 := HOq.out.frozenAt (g := g1) (m * 2)
            have f4 := HOq.out.frozenAt (g := g1) (m * 2 + 1)
            have hgq : g1 < wq.heap.size := (HOq.out.lt g1 rfl).2
            have HSW := Aside0.mk hsw
            clear hsw hpq
            go_wp2
            exact ⟨⟨m, sl, rfl, by omega, HLSW.out, ⟨HSW.out.alloc _⟩, ⟨below_alloc (below_set (below_set (below_set (below_set HBq.out HG1.out) HG1.out) HG1.out) HG1.out) _⟩, ⟨HBUB.out.symm⟩⟩, by simp [intOf]⟩
          · rw [if_neg hlt2] at hbub
            have HKK : Aside0 (lj = insF li (nm, ad)) := ⟨hbub.symm⟩
            have hdec : decide ((podAt lj (m + 1)).2 < (podAt lj m).2) = false := by simpa using hlt2
            clear hbub HK fz
            generalize podAt lj (m + 1) = p1 at *
            generalize podAt lj m = p0 at *
            obtain ⟨s1, a1⟩ := p1
            obtain ⟨s0, a0⟩ := p0
            simp only at c10 c11 c00 c01 hlt2 hdec
            go_wp2
            go_quiet (fail)
            go_wp2
            go_roundw
            case rel => exact ⟨i + 1, by go_num, by omega, ⟨by rw [HTS.out, ← HKK.out]; exact HO.out⟩, ⟨pw_below_drewN HB.out _⟩⟩
            case measure => simp [intOf]; omega
    · obtain rfl : i = R.pods.length := by omega
      rw [List.take_length] at HO
      obtain ⟨A3, c3, rfl⟩ := own_slice HO.out
      go_wp2
      go_ret
      exact ⟨_, rfl, by rw [rlistF_length]; exact HO.out, HB.out⟩
end Go.Proofs.Ytgabkifojnkbkaa.Ip
