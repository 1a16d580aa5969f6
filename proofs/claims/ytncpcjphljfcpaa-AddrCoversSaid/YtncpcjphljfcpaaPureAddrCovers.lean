/- addr.Cover gives the list that weftref1.Cover gives, for every two addresses; the statement weftlaw1.AddrCovers. No further condition. -/
import Derived.Test.YtncpcjphljfcpaaCovTree
namespace Go.Proofs.Ytncpcjphljfcpaa.Pure
open Go.RowKit Go.Proofs.Ytncpcjphljfcpaa.PCov Go.Proofs.YtncpcjphljfcpaaW.PrintWords Go.Proofs.YtncpcjphljfcpaaW.PrintLast Go.Proofs.YtncpcjphljfcpaaW.PrintMore

theorem same_l0 (l : List S32) (hl : l.length ≤ 1000000) (j : Nat) : ∀ i : Nat, i + j = l.length → ∀ k, j < k → weftlaw1_same.l0 k l l i = some true := by
  induction j with
  | zero =>
    intro i hi k hk
    obtain ⟨k, rfl⟩ : ∃ m, k = m + 1 := ⟨k - 1, by omega⟩
    simp only [weftlaw1_same.l0]
    rw [if_neg (by omega)]
  | succ j ih =>
    intro i hi k hk
    obtain ⟨k, rfl⟩ : ∃ m, k = m + 1 := ⟨k - 1, by omega⟩
    simp only [weftlaw1_same.l0]
    rw [if_pos (by omega), if_pos (by omega), if_pos (by omega), if_neg (by simp), w64 (n := (i : Int) + 1) (by omega) (by omega), show ((i : Int) + 1) = ((i + 1 : Nat) : Int) from by omega]
    exact ih (i + 1) (by omega) k (by omega)
theorem same_self (l : List S32) (hl : l.length ≤ 1000000) : Ev (fun k => weftlaw1_same.f k l l) true := by
  refine ⟨l.length + 1, fun k hk => ?_⟩
  unfold weftlaw1_same.f
  dsimp only
  rw [if_pos rfl]
  exact same_l0 l hl l.length 0 (by omega) k (by omega)

theorem u32_of {a : Int} (h : (Lit.int .u32 a).wf = true) : 0 ≤ a ∧ a < 4294967296 := by
  simp [Lit.wf, IntKind.min, IntKind.max, IntKind.bits, IntKind.signed] at h
  omega

theorem AddrCovers : weftlaw1_AddrCovers.Pure := by
  intro lo hi hl hh
  obtain ⟨hl0, hl1⟩ := u32_of hl
  obtain ⟨hh0, hh1⟩ := u32_of hh
  refine Ev.rounds ?_
  unfold weftlaw1_AddrCovers.f
  refine Ev.bind begun_ev ?_
  simp only [if_true]
  refine Ev.bind (cover_ev lo hi hl0 hh1) ?_
  refine Ev.bind (ref_ev lo hi hl0 hl1 hh0 hh1) ?_
  refine Ev.bind (same_self _ (by have := cover_62 lo hi; omega)) (Ev.now _)
end Go.Proofs.Ytncpcjphljfcpaa.Pure
