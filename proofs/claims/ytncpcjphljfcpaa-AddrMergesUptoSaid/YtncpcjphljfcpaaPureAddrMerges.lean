/- Merge of every list is the document's list and error, the list that was handed in as it was: the law weftlaw1.AddrMerges in plain Lean. Condition: the list is no longer than 1000000. -/
import Derived.Test.YtncpcjphljfcpaaRMrgRef
import Derived.Test.YtncpcjphljfcpaaPMrsx
namespace Go.Proofs.Ytncpcjphljfcpaa.Pure
open Go.RowKit Go.Proofs.Ytncpcjphljfcpaa.PMrs Go.Proofs.YtncpcjphljfcpaaW.PrintWords Go.Proofs.YtncpcjphljfcpaaW.PrintLast Go.Proofs.YtncpcjphljfcpaaW.PrintMore

theorem same_l0 (l : List S32) (hl : l.length ≤ 1000000) (j : Nat) : ∀ i : Nat, i + j = l.length → ∀ k, j < k → weftlaw1_same.l0 k l l i = some true := by
  induction j with
  | zero =>
    intro i hi k hk
    obtain ⟨k, rfl⟩ : ∃ m, k = m + 1 := ⟨k - 1, by omega⟩
    simp only [weftlaw1_same.l0]
    rw [if_neg (by omega)]
  | succ j ih =>
    intro i hi k hk
    obtain ⟨k, rfl⟩ : ∃ m, k = m + 1 := ⟨k - 1, by omega⟩
    simp only [weftlaw1_same.l0]
    rw [if_pos (by omega), if_pos (by omega), if_pos (by omega), if_neg (by simp), w64 (n := (i : Int) + 1) (by omega) (by omega), show ((i : Int) + 1) = ((i + 1 : Nat) : Int) from by omega]
    exact ih (i + 1) (by omega) k (by omega)
theorem same_self (l : List S32) (hl : l.length ≤ 1000000) : Ev (fun k => weftlaw1_same.f k l l) true := by
  refine ⟨l.length + 1, fun k hk => ?_⟩
  unfold weftlaw1_same.f
  dsimp only
  rw [if_pos rfl]
  exact same_l0 l hl l.length 0 (by omega) k (by omega)


theorem copied_l0 (l : List S32) (hl : l.length ≤ 1000000) (j : Nat) : ∀ i : Nat, i + j = l.length → ∀ k, j < k → weftlaw1_copied.l0 k l (l.take i) i = some l := by
  induction j with
  | zero =>
    intro i hi k hk
    obtain ⟨k, rfl⟩ : ∃ m, k = m + 1 := ⟨k - 1, by omega⟩
    simp only [weftlaw1_copied.l0]
    rw [if_neg (by omega), List.take_of_length_le (by omega)]
  | succ j ih =>
    intro i hi k hk
    obtain ⟨k, rfl⟩ : ∃ m, k = m + 1 := ⟨k - 1, by omega⟩
    have hil : i < l.length := by omega
    simp only [weftlaw1_copied.l0]
    rw [if_pos (by omega), if_pos (by omega), if_pos (by rw [List.length_take]; omega), w64 (n := (i : Int) + 1) (by omega) (by omega), show ((i : Int) + 1) = ((i + 1 : Nat) : Int) from by omega, ← take_rd hil]
    exact ih (i + 1) (by omega) k (by omega)
theorem copied_ev (l : List S32) (hl : l.length ≤ 1000000) : Ev (fun k => weftlaw1_copied.f k l) l := by
  refine ⟨l.length + 1, fun k hk => ?_⟩
  have := copied_l0 l hl l.length 0 (by omega) k (by omega)
  rw [List.take_zero] at this
  exact this
theorem mrg_62 : ∀ (R : List (Int × Int)), (R.flatMap cv).length ≤ 62 * R.length
  | [] => by simp
  | r :: R => by
    have h1 := mrg_62 R
    have h2 := cover_62 r.1 r.2
    rw [List.flatMap_cons, List.length_append, List.length_cons]
    show (cover r.1 r.2).length + _ ≤ _
    omega
theorem runsGo_len : ∀ (l : List (Int × Int)) (lo hi : Int), (Runs.runsGo l lo hi).length ≤ l.length + 1
  | [], _, _ => by simp [Runs.runsGo]
  | p :: r, lo, hi => by
    unfold Runs.runsGo
    split
    · have := runsGo_len r lo (max hi p.2); simp only [List.length_cons]; omega
    · have := runsGo_len r p.1 p.2; simp only [List.length_cons]; omega
theorem mrg_short (l : List S32) : (mrg l).length ≤ 62 * l.length := by
  unfold mrg
  have h1 := mrg_62 (rns l)
  have h2 : (rns l).length ≤ l.length := by
    unfold rns
    have hs := (srtS_perm l).length_eq
    rw [← hs]
    generalize srtS l = S at *
    cases S with
    | nil => simp [Runs.runsOf]
    | cons p r => have := runsGo_len (r.map sp) (sp p).1 (sp p).2; rw [List.length_map] at this; exact this
  omega
theorem both_short (l : List S32) (hU : ∀ p, p ∈ l → U32 p) : ∃ x, Ev (fun k => addr_Merge.f k l) x ∧ Ev (fun k => weftref1_Merge.f k l) x ∧ x.1.length ≤ 1000000 := by
  obtain ⟨x, h1, h2⟩ := both_ev l hU
  refine ⟨x, h1, h2, ?_⟩
  by_cases hn : l.length > 4096
  · obtain ⟨K, hK⟩ := h1
    have := hK K (Nat.le_refl _)
    dsimp only at this
    unfold addr_Merge.f at this
    rw [if_pos hn] at this
    obtain rfl := Option.some.inj this
    exact Nat.zero_le _
  · obtain ⟨e, g1, g2, _, _⟩ := both_faults l hU
    have key : ∀ y, Ev (fun k => addr_Merge.f k l) y → y = x := fun y hy => by
      obtain ⟨K, hK⟩ := h1
      obtain ⟨J, hJ⟩ := hy
      have a1 := hK (max K J) (Nat.le_max_left _ _)
      have a2 := hJ (max K J) (Nat.le_max_right _ _)
      exact Option.some.inj (a2.symm.trans a1)
    by_cases he : e = 0
    · have := key _ (mrg_ev (by omega) (g2.1 he))
      subst this
      have := mrg_short l
      show (mrg l).length ≤ _
      omega
    · obtain ⟨e2, _, hm⟩ := mrg_bad (l := l) (by omega) hU (fun h => he (g2.2 h))
      have := key _ hm
      subst this
      exact Nat.zero_le _
theorem AddrMergesP (l0 : List S32) (hU : ∀ p, p ∈ l0 → U32 p) (hn : l0.length ≤ 1000000) : ∃ k, weftlaw1_AddrMerges.f k l0 = some true := by
  obtain ⟨x, h1, h2, h3⟩ := both_short l0 hU
  have hc := copied_ev l0 hn
  refine Ev.rounds ?_
  unfold weftlaw1_AddrMerges.f
  refine Ev.bind begun_ev ?_
  simp only [if_true]
  refine Ev.bind hc (Ev.bind hc ?_)
  refine Ev.congr (fun k => if_pos (show l0.length = l0.length ∧ l0.length ≤ 8000000 from ⟨rfl, by omega⟩)) ?_
  refine Ev.bind h1 (Ev.bind h2 ?_)
  simp only [if_true]
  refine Ev.bind (same_self x.1 h3) ?_
  simp only [if_true]
  refine Ev.bind (same_self l0 hn) ?_
  simp only [if_true]
  exact Ev.now true
end Go.Proofs.Ytncpcjphljfcpaa.Pure
