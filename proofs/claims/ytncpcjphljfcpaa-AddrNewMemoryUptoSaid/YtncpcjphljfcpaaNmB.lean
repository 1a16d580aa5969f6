/- AddrNewMemory: what the functions that it calls answer, as contracts over worlds. Conditions: addresses below 2^32, lists no longer than 1000000. -/
import Derived.Test.YtncpcjphljfcpaaNmA
set_option linter.unusedVariables false
set_option linter.unusedSimpArgs false
namespace Go.Proofs.Ytncpcjphljfcpaa.Nm
open Go.RowKit Go.Proofs.YtncpcjphljfcpaaW.PrintWords Go.Proofs.YtncpcjphljfcpaaW.PrintLast Go.Proofs.YtncpcjphljfcpaaW.PrintMore Go.Proofs.Ytncpcjphljfcpaa.PNmm Go.Proofs.Ytncpcjphljfcpaa.Pure
theorem same_l0 (l : List S32) (hl : l.length ≤ 1000000) (j : Nat) : ∀ i : Nat, i + j = l.length → ∀ k, j < k → weftlaw1_same.l0 k l l i = some true := by
  induction j with
  | zero =>
    intro i hi k hk
    obtain ⟨k, rfl⟩ : ∃ m, k = m + 1 := ⟨k - 1, by omega⟩
    simp only [weftlaw1_same.l0]
    rw [if_neg (by omega)]
  | succ j ih =>
    intro i hi k hk
    obtain ⟨k, rfl⟩ : ∃ m, k = m + 1 := ⟨k - 1, by omega⟩
    simp only [weftlaw1_same.l0]
    rw [if_pos (by omega), if_pos (by omega), if_pos (by omega), if_neg (by simp), w64 (n := (i : Int) + 1) (by omega) (by omega), show ((i : Int) + 1) = ((i + 1 : Nat) : Int) from by omega]
    exact ih (i + 1) (by omega) k (by omega)
theorem same_self (l : List S32) (hl : l.length ≤ 1000000) : Ev (fun k => weftlaw1_same.f k l l) true := by
  refine ⟨l.length + 1, fun k hk => ?_⟩
  unfold weftlaw1_same.f
  dsimp only
  rw [if_pos rfl]
  exact same_l0 l hl l.length 0 (by omega) k (by omega)


theorem copied_l0 (l : List S32) (hl : l.length ≤ 1000000) (j : Nat) : ∀ i : Nat, i + j = l.length → ∀ k, j < k → weftlaw1_copied.l0 k l (l.take i) i = some l := by
  induction j with
  | zero =>
    intro i hi k hk
    obtain ⟨k, rfl⟩ : ∃ m, k = m + 1 := ⟨k - 1, by omega⟩
    simp only [weftlaw1_copied.l0]
    rw [if_neg (by omega), List.take_of_length_le (by omega)]
  | succ j ih =>
    intro i hi k hk
    obtain ⟨k, rfl⟩ : ∃ m, k = m + 1 := ⟨k - 1, by omega⟩
    have hil : i < l.length := by omega
    simp only [weftlaw1_copied.l0]
    rw [if_pos (by omega), if_pos (by omega), if_pos (by rw [List.length_take]; omega), w64 (n := (i : Int) + 1) (by omega) (by omega), show ((i : Int) + 1) = ((i + 1 : Nat) : Int) from by omega, ← take_rd hil]
    exact ih (i + 1) (by omega) k (by omega)
theorem copied_ev (l : List S32) (hl : l.length ≤ 1000000) : Ev (fun k => weftlaw1_copied.f k l) l := by
  refine ⟨l.length + 1, fun k hk => ?_⟩
  have := copied_l0 l hl l.length 0 (by omega) k (by omega)
  rw [List.take_zero] at this
  exact this
theorem mrg_62 : ∀ (R : List (Int × Int)), (R.flatMap cv).length ≤ 62 * R.length
  | [] => by simp
  | r :: R => by
    have h1 := mrg_62 R
    have h2 := cover_62 r.1 r.2
    rw [List.flatMap_cons, List.length_append, List.length_cons]
    show (Pure.cover r.1 r.2).length + _ ≤ _
    omega
theorem runsGo_len : ∀ (l : List (Int × Int)) (lo hi : Int), (Runs.runsGo l lo hi).length ≤ l.length + 1
  | [], _, _ => by simp [Runs.runsGo]
  | p :: r, lo, hi => by
    unfold Runs.runsGo
    split
    · have := runsGo_len r lo (max hi p.2); simp only [List.length_cons]; omega
    · have := runsGo_len r p.1 p.2; simp only [List.length_cons]; omega
theorem mrg_short (l : List S32) : (mrg l).length ≤ 62 * l.length := by
  unfold mrg
  have h1 := mrg_62 (rns l)
  have h2 : (rns l).length ≤ l.length := by
    unfold rns
    have hs := (srtS_perm l).length_eq
    rw [← hs]
    generalize srtS l = S at *
    cases S with
    | nil => simp [Runs.runsOf]
    | cons p r => have := runsGo_len (r.map sp) (sp p).1 (sp p).2; rw [List.length_map] at this; exact this
  omega

/-- the mark of a number -/
def mk (n : Int) : S32 := ⟨n % 4294967296, wrap64 (40 + n)⟩
theorem all_l0 (m : Int) (n : Nat) (hn : n ≤ 8796093022208) (j : Nat) : ∀ i : Nat, i + j = n → ∀ k, j < k → weftlaw1_all.l0 k (List.replicate n (mk m)) m i = some true := by
  induction j with
  | zero =>
    intro i hi k hk
    obtain ⟨k, rfl⟩ : ∃ m, k = m + 1 := ⟨k - 1, by omega⟩
    simp only [weftlaw1_all.l0, List.length_replicate]
    rw [if_neg (by omega)]
  | succ j ih =>
    intro i hi k hk
    obtain ⟨k, rfl⟩ : ∃ m, k = m + 1 := ⟨k - 1, by omega⟩
    have e : rd_T32 (List.replicate n (mk m)) (i : Int) = mk m := by
      unfold rd_T32
      rw [Int.toNat_natCast, List.getD_eq_getElem?_getD, List.getElem?_replicate_of_lt (by omega)]; rfl
    simp only [weftlaw1_all.l0, List.length_replicate, weftlaw1_mark.f, Option.bind_some, e]
    rw [if_pos (by omega), if_pos (by omega), if_neg (by simp [mk]), w64 (n := (i : Int) + 1) (by omega) (by omega), show ((i : Int) + 1) = ((i + 1 : Nat) : Int) from by omega]
    exact ih (i + 1) (by omega) k (by omega)
theorem cover_c (lo hi : Int) (h0 : 0 ≤ lo) (h1 : hi < 4294967296) : ∃ r : List S32, r.length ≤ 62 ∧ ∀ w : World, Calls Try.prog 10 #[.int .u32 lo, .int .u32 hi] w fun e w' => ∃ v, e = .returned v ∧ Row w' w.heap.size v r ∧ Below w.heap.size w w' := by
  obtain ⟨k, hk⟩ := (cover_ev lo hi h0 h1).rounds
  refine ⟨Pure.cover lo hi, cover_62 lo hi, fun w => (addr_Cover.calls k lo hi _ w hk).mono ?_⟩
  rintro e w' ⟨v, he, hR, hb⟩
  exact ⟨v, he, Row.of_R hR, hb⟩
theorem merge_c (l : List S32) (hU : ∀ p, p ∈ l → U32 p) : ∃ (r : List S32) (er : Int), r.length ≤ 253952 ∧ ∀ (w : World) (A : Option Addr) (c : Nat), Kd.C k32 w A l.length l → l.length ≤ c →
    Calls Try.prog 24 #[.slice A l.length c] w fun e w' => ∃ v, e = .returned (.tuple #[v, .int .i64 er]) ∧ Row w' w.heap.size v r ∧ Below w.heap.size w w' := by
  have hex : ∃ (r : List S32) (er : Int), r.length ≤ 253952 ∧ ∃ k, addr_Merge.f k l = some (r, er) := by
    by_cases hn : l.length ≤ 4096
    · by_cases hV : ∀ p, p ∈ l → Vp p
      · exact ⟨mrg l, 0, by have := mrg_short l; omega, (mrg_ev hn hV).rounds⟩
      · obtain ⟨e, _, he⟩ := mrg_bad hn hU hV
        exact ⟨[], e, by simp, he.rounds⟩
    · refine ⟨[], 2, by simp, 0, ?_⟩
      unfold addr_Merge.f
      rw [if_pos (by omega)]
  obtain ⟨r, er, hr, k, hk⟩ := hex
  refine ⟨r, er, hr, fun w A c hC hc => (addr_Merge.calls k A c l r er w hC hc hk).mono ?_⟩
  rintro e w' ⟨v, he, hR, hb⟩
  exact ⟨v, he, Row.of_R hR, hb⟩
theorem same_c (l : List S32) (hl : l.length ≤ 1000000) (w : World) (A B : Option Addr) (c d : Nat) (hA : Kd.C k32 w A l.length l) (hc : l.length ≤ c) (hB : Kd.C k32 w B l.length l) (hd : l.length ≤ d) :
    Calls Try.prog 12 #[.slice A l.length c, .slice B l.length d] w fun e w' => e = .returned (.bool true) ∧ Drawn0 w w' := by
  obtain ⟨k, hk⟩ := (same_self l hl).rounds
  exact weftlaw1_same.calls k A c l B d l true w hA hc hB hd hk
theorem copied_c (l : List S32) (hl : l.length ≤ 1000000) (w : World) (A : Option Addr) (c : Nat) (hA : Kd.C k32 w A l.length l) (hc : l.length ≤ c) :
    Calls Try.prog 23 #[.slice A l.length c] w fun e w' => ∃ v, e = .returned v ∧ Row w' w.heap.size v l ∧ Below w.heap.size w w' := by
  obtain ⟨k, hk⟩ := (copied_ev l hl).rounds
  refine (weftlaw1_copied.calls k A c l l w hA hc hk).mono ?_
  rintro e w' ⟨v, he, hR, hb⟩
  exact ⟨v, he, Row.of_R hR, hb⟩
theorem all_c (m : Int) (n : Nat) (hn : n ≤ 8796093022208) (w : World) (A : Option Addr) (c : Nat) (hA : Kd.C k32 w A n (List.replicate n (mk m))) (hc : n ≤ c) :
    Calls Try.prog 30 #[.slice A n c, .int .i64 m] w fun e w' => e = .returned (.bool true) ∧ Below w.heap.size w w' := by
  have h := weftlaw1_all.calls (n + 1) A c (List.replicate n (mk m)) m true w (by rw [List.length_replicate]; exact hA) (by rw [List.length_replicate]; exact hc) (all_l0 m n hn n 0 (by omega) (n + 1) (by omega))
  rw [List.length_replicate] at h
  exact h
theorem mark_c (m : Int) (w : World) : Calls Try.prog 29 #[.int .i64 m] w fun e w' => e = .returned (.agg #[.int .u32 (mk m).f0, .int .i64 (mk m).f1]) ∧ Below w.heap.size w w' := weftlaw1_mark.calls m _ _ w rfl
theorem begun_c (w : World) : Calls Try.prog 9 #[] w fun e w' => e = .returned (.bool true) ∧ Drawn0 w w' := weftlaw1_begun.calls 20 true w begun_eq
end Go.Proofs.Ytncpcjphljfcpaa.Nm
