/- The law weftlaw1.AddrScript in plain Lean: every step is answered as the document says, and what was answered stays. Conditions: the script's numbers are of their kinds, its texts and lists and itself no longer than stated. -/
import Derived.Test.YtncpcjphljfcpaaDoorScSteps
import Derived.Test.YtncpcjphljfcpaaDoorScMrgRef
import Derived.Test.YtncpcjphljfcpaaDoorScrWalk3
namespace Go.Proofs.YtncpcjphljfcpaaDoor.Pure
open Go.RowKit Go.Proofs.YtncpcjphljfcpaaDoor.PScr Go.Proofs.YtncpcjphljfcpaaDoor.Txt Go.Proofs.YtncpcjphljfcpaaDoorW.PrintWords Go.Proofs.YtncpcjphljfcpaaDoorW.PrintLast Go.Proofs.YtncpcjphljfcpaaDoorW.PrintMore

theorem ref_ev (lo hi : Int) (hlo : 0 ≤ lo) (hlo' : lo < 4294967296) (hhi0 : 0 ≤ hi) (hhi : hi < 4294967296) : Ev (fun k => weftref1_Cover.f k lo hi) (cover lo hi) := by
  unfold weftref1_Cover.f cover
  by_cases h : lo > hi
  · simp only [if_pos h]; exact Ev.now _
  · simp only [if_neg h]
    refine ⟨200, fun k hk => ?_⟩
    dsimp only
    rw [w64 (n := lo) (by omega) (by omega), w64 (n := hi) (by omega) (by omega)]
    have := covered_eq lo hi hlo (by omega) hhi 32 0 [] (by omega) (by omega) (by rw [tp32]; omega) (by simp) k (by omega)
    rw [show (32 : Int) - ((32 : Nat) : Int) = 0 from rfl] at this
    rw [this, Option.bind_some]; rfl
theorem same_l0 (l : List S31) (hl : l.length ≤ 1000000) (j : Nat) : ∀ i : Nat, i + j = l.length → ∀ k, j < k → weftlaw1_same.l0 k l l i = some true := by
  induction j with
  | zero =>
    intro i hi k hk
    obtain ⟨k, rfl⟩ : ∃ m, k = m + 1 := ⟨k - 1, by omega⟩
    simp only [weftlaw1_same.l0]
    rw [if_neg (by omega)]
  | succ j ih =>
    intro i hi k hk
    obtain ⟨k, rfl⟩ : ∃ m, k = m + 1 := ⟨k - 1, by omega⟩
    simp only [weftlaw1_same.l0]
    rw [if_pos (by omega), if_pos (by omega), if_pos (by omega), if_neg (by simp), w64 (n := (i : Int) + 1) (by omega) (by omega), show ((i : Int) + 1) = ((i + 1 : Nat) : Int) from by omega]
    exact ih (i + 1) (by omega) k (by omega)
theorem same_self (l : List S31) (hl : l.length ≤ 1000000) : Ev (fun k => weftlaw1_same.f k l l) true := by
  refine ⟨l.length + 1, fun k hk => ?_⟩
  unfold weftlaw1_same.f
  dsimp only
  rw [if_pos rfl]
  exact same_l0 l hl l.length 0 (by omega) k (by omega)


theorem copied_l0 (l : List S31) (hl : l.length ≤ 1000000) (j : Nat) : ∀ i : Nat, i + j = l.length → ∀ k, j < k → weftlaw1_copied.l0 k l (l.take i) i = some l := by
  induction j with
  | zero =>
    intro i hi k hk
    obtain ⟨k, rfl⟩ : ∃ m, k = m + 1 := ⟨k - 1, by omega⟩
    simp only [weftlaw1_copied.l0]
    rw [if_neg (by omega), List.take_of_length_le (by omega)]
  | succ j ih =>
    intro i hi k hk
    obtain ⟨k, rfl⟩ : ∃ m, k = m + 1 := ⟨k - 1, by omega⟩
    have hil : i < l.length := by omega
    simp only [weftlaw1_copied.l0]
    rw [if_pos (by omega), if_pos (by omega), if_pos (by rw [List.length_take]; omega), w64 (n := (i : Int) + 1) (by omega) (by omega), show ((i : Int) + 1) = ((i + 1 : Nat) : Int) from by omega, ← take_rd hil]
    exact ih (i + 1) (by omega) k (by omega)
theorem copied_ev (l : List S31) (hl : l.length ≤ 1000000) : Ev (fun k => weftlaw1_copied.f k l) l := by
  refine ⟨l.length + 1, fun k hk => ?_⟩
  have := copied_l0 l hl l.length 0 (by omega) k (by omega)
  rw [List.take_zero] at this
  exact this
theorem mrg_62 : ∀ (R : List (Int × Int)), (R.flatMap cv).length ≤ 62 * R.length
  | [] => by simp
  | r :: R => by
    have h1 := mrg_62 R
    have h2 := cover_62 r.1 r.2
    rw [List.flatMap_cons, List.length_append, List.length_cons]
    show (cover r.1 r.2).length + _ ≤ _
    omega
theorem runsGo_len : ∀ (l : List (Int × Int)) (lo hi : Int), (Runs.runsGo l lo hi).length ≤ l.length + 1
  | [], _, _ => by simp [Runs.runsGo]
  | p :: r, lo, hi => by
    unfold Runs.runsGo
    split
    · have := runsGo_len r lo (max hi p.2); simp only [List.length_cons]; omega
    · have := runsGo_len r p.1 p.2; simp only [List.length_cons]; omega
theorem mrg_short (l : List S31) : (mrg l).length ≤ 62 * l.length := by
  unfold mrg
  have h1 := mrg_62 (rns l)
  have h2 : (rns l).length ≤ l.length := by
    unfold rns
    have hs := (srtS_perm l).length_eq
    rw [← hs]
    generalize srtS l = S at *
    cases S with
    | nil => simp [Runs.runsOf]
    | cons p r => have := runsGo_len (r.map sp) (sp p).1 (sp p).2; rw [List.length_map] at this; exact this
  omega
theorem both_short (l : List S31) (hU : ∀ p, p ∈ l → U32 p) : ∃ x, Ev (fun k => addr_Merge.f k l) x ∧ Ev (fun k => weftref1_Merge.f k l) x ∧ x.1.length ≤ 1000000 := by
  obtain ⟨x, h1, h2⟩ := both_ev l hU
  refine ⟨x, h1, h2, ?_⟩
  by_cases hn : l.length > 4096
  · obtain ⟨K, hK⟩ := h1
    have := hK K (Nat.le_refl _)
    dsimp only at this
    unfold addr_Merge.f at this
    rw [if_pos hn] at this
    obtain rfl := Option.some.inj this
    exact Nat.zero_le _
  · obtain ⟨e, g1, g2, _, _⟩ := both_faults l hU
    have key : ∀ y, Ev (fun k => addr_Merge.f k l) y → y = x := fun y hy => by
      obtain ⟨K, hK⟩ := h1
      obtain ⟨J, hJ⟩ := hy
      have a1 := hK (max K J) (Nat.le_max_left _ _)
      have a2 := hJ (max K J) (Nat.le_max_right _ _)
      exact Option.some.inj (a2.symm.trans a1)
    by_cases he : e = 0
    · have := key _ (mrg_ev (by omega) (g2.1 he))
      subst this
      have := mrg_short l
      show (mrg l).length ≤ _
      omega
    · obtain ⟨e2, _, hm⟩ := mrg_bad (l := l) (by omega) hU (fun h => he (g2.2 h))
      have := key _ hm
      subst this
      exact Nat.zero_le _

/-- what a step is given -/
structure OpOk (o : S45) : Prop where
  tx : o.f1.size ≤ 1000000000000000000
  a : 0 ≤ o.f2.f0 ∧ o.f2.f0 < 4294967296
  p : 0 ≤ o.f2.f1.f0 ∧ o.f2.f1.f0 < 4294967296
  m0 : byteIn o.f2.f2.f0
  m1 : byteIn o.f2.f2.f1
  m2 : byteIn o.f2.f2.f2
  m3 : byteIn o.f2.f2.f3
  m4 : byteIn o.f2.f2.f4
  m5 : byteIn o.f2.f2.f5
  lo : 0 ≤ o.f3 ∧ o.f3 < 4294967296
  hi : 0 ≤ o.f4 ∧ o.f4 < 4294967296
  ps : o.f5.length ≤ 1000000 ∧ ∀ q, q ∈ o.f5 → U32 q
structure LOk (L : List S31) : Prop where
  len : L.length ≤ 1000000
  u : ∀ q, q ∈ L → U32 q
theorem merges_ev {L : List S31} (h : LOk L) : ∃ x : List S31, x.length ≤ 1000000 ∧ Ev (fun k => mergesF k L) (x, x) := by
  obtain ⟨x, h1, h2, h3⟩ := both_short L h.u
  have hc := copied_ev L h.len
  refine ⟨x.1, h3, ?_⟩
  unfold mergesF
  refine Ev.bind hc (Ev.bind h1 (Ev.bind h2 (Ev.bind (same_self x.1 h3) (Ev.bind (same_self L h.len) (Ev.bind (copied_ev x.1 h3) ?_)))))
  exact Ev.congr (fun k => if_pos ⟨rfl, rfl, rfl⟩) (Ev.now _)
theorem add_ev {L x : List S31} {xs : List (List S31)} (h : xs.length < 1000000) : Ev (fun _ => addF L xs xs (x, x)) (L, xs ++ [x], xs ++ [x]) :=
  ⟨0, fun _ _ => if_pos ⟨h, h⟩⟩
theorem mstep_ev {L : List S31} {xs : List (List S31)} (h : LOk L) (hx : xs.length < 1000000) (hX : ∀ x, x ∈ xs → x.length ≤ 1000000) : ∃ ys : List (List S31), ys.length ≤ xs.length + 1 ∧ (∀ x, x ∈ ys → x.length ≤ 1000000) ∧ Ev (fun k => (mergesF k L).bind (addF L xs xs)) (L, ys, ys) := by
  obtain ⟨x, h1, h2⟩ := merges_ev h
  refine ⟨xs ++ [x], by simp, fun y hy => ?_, Ev.bind h2 (add_ev hx)⟩
  rcases List.mem_append.1 hy with hy | hy
  · exact hX y hy
  · rw [List.mem_singleton.1 hy]; exact h1
theorem step_ev {o : S45} (ho : OpOk o) {L : List S31} {xs : List (List S31)} (h : LOk L) (hx : xs.length < 1000000) (hX : ∀ x, x ∈ xs → x.length ≤ 1000000) :
    ∃ (L2 : List S31) (ys : List (List S31)), LOk L2 ∧ ys.length ≤ xs.length + 1 ∧ (∀ x, x ∈ ys → x.length ≤ 1000000) ∧ Ev (fun k => playsF k o L xs xs) (L2, ys, ys) := by
  unfold playsF
  by_cases h1 : o.f0 = 1
  · refine ⟨L, xs, h, by omega, hX, ?_⟩
    simp only [if_pos h1]
    refine Ev.bind (parses_ev o.f1 ho.tx) ?_
    simp only [if_true]
    exact Ev.now _
  · simp only [if_neg h1]
    by_cases h2 : o.f0 = 2
    · refine ⟨L, xs, h, by omega, hX, ?_⟩
      simp only [if_pos h2]
      refine Ev.bind (formats_ev ho.a.1 ho.a.2 ho.p.1 ho.p.2 ho.m0 ho.m1 ho.m2 ho.m3 ho.m4 ho.m5) (Ev.bind (holds_ev ho.a.1 ho.a.2 ho.p.1 ho.p.2) ?_)
      exact Ev.congr (fun k => if_pos ⟨rfl, rfl⟩) (Ev.now _)
    · simp only [if_neg h2]
      by_cases h3 : o.f0 = 3
      · have hl := cover_62 o.f3 o.f4
        refine ⟨L, xs ++ [cover o.f3 o.f4], h, by simp, fun y hy => ?_, ?_⟩
        · rcases List.mem_append.1 hy with hy | hy
          · exact hX y hy
          · rw [List.mem_singleton.1 hy]; omega
        · simp only [if_pos h3]
          refine Ev.bind (cover_ev _ _ ho.lo.1 ho.hi.2) (Ev.bind (ref_ev _ _ ho.lo.1 ho.lo.2 ho.hi.1 ho.hi.2) (Ev.bind (copied_ev _ (by omega)) (Ev.bind (same_self _ (by omega)) ?_)))
          simp only [if_true]
          exact add_ev hx
      · simp only [if_neg h3]
        by_cases h4 : o.f0 = 4
        · have hL : LOk o.f5 := ⟨ho.ps.1, ho.ps.2⟩
          obtain ⟨ys, g1, g2, g3⟩ := mstep_ev hL hx hX
          refine ⟨o.f5, ys, hL, g1, g2, ?_⟩
          simp only [if_pos h4]
          exact Ev.bind (copied_ev _ ho.ps.1) g3
        · simp only [if_neg h4]
          by_cases h5 : o.f0 = 5
          · have hL : LOk (wroteF o L) := by
              unfold wroteF
              split
              · refine ⟨by rw [List.length_set]; exact h.len, fun q hq => ?_⟩
                rcases List.mem_or_eq_of_mem_set hq with hq | hq
                · exact h.u q hq
                · rw [hq]; exact ho.p
              · exact h
            obtain ⟨ys, g1, g2, g3⟩ := mstep_ev hL hx hX
            refine ⟨wroteF o L, ys, hL, g1, g2, ?_⟩
            simp only [if_pos h5]
            exact g3
          · simp only [if_neg h5]
            by_cases h6 : o.f0 = 6
            · obtain ⟨ys, g1, g2, g3⟩ := mstep_ev h hx hX
              refine ⟨L, ys, h, g1, g2, ?_⟩
              simp only [if_pos h6]
              exact g3
            · refine ⟨L, xs, h, by omega, hX, ?_⟩
              simp only [if_neg h6]
              exact Ev.now _
theorem run_ev : ∀ (l : List S45) (L : List S31) (xs : List (List S31)), (∀ o, o ∈ l → OpOk o) → LOk L → xs.length + l.length ≤ 900000 → (∀ x, x ∈ xs → x.length ≤ 1000000) →
    ∃ (L2 : List S31) (ys : List (List S31)), ys.length ≤ xs.length + l.length ∧ (∀ x, x ∈ ys → x.length ≤ 1000000) ∧ Ev (fun k => runF k l (L, xs, xs)) (L2, ys, ys)
  | [], L, xs, _, _, _, hX => ⟨L, xs, by simp, hX, Ev.now _⟩
  | o :: r, L, xs, ho, hL, hn, hX => by
    simp only [List.length_cons] at hn
    obtain ⟨L1, ys1, g1, g2, g3, g4⟩ := step_ev (ho o (by simp)) hL (by omega) hX
    obtain ⟨L2, ys, k1, k2, k3⟩ := run_ev r L1 ys1 (fun q hq => ho q (by simp [hq])) g1 (by omega) g3
    refine ⟨L2, ys, by simp only [List.length_cons]; omega, k2, ?_⟩
    have hlen := hL.len
    exact Ev.congr (fun k => if_pos (show L.length ≤ 1000000000 by omega)) (Ev.bind g4 k3)
theorem end_ev : ∀ (xs : List (List S31)), (∀ x, x ∈ xs → x.length ≤ 1000000) → Ev (fun k => endF k xs xs) true
  | [], _ => Ev.now true
  | x :: xs, h => by
    have ih := end_ev xs fun y hy => h y (by simp [hy])
    refine Ev.bind (same_self x (h x (by simp))) ?_
    simp only [if_true]
    exact ih
theorem AddrScriptP (l0 : List S45) (h : ∀ o, o ∈ l0 → OpOk o) (hn : l0.length ≤ 900000) : ∃ k, weftlaw1_AddrScript.f k l0 = some true := by
  obtain ⟨L2, ys, g1, g2, g3⟩ := run_ev l0 [] [] h ⟨by simp, fun q hq => by cases hq⟩ (by simpa using hn) (fun x hx => by cases hx)
  refine Ev.rounds ?_
  unfold weftlaw1_AddrScript.f
  refine Ev.bind begun_ev ?_
  simp only [if_true]
  refine Ev.bind g3 ?_
  exact Ev.congr (fun k => if_pos (show ys.length ≤ 1000000000 by simp at g1; omega)) (end_ev ys g2)
end Go.Proofs.YtncpcjphljfcpaaDoor.Pure
