/- The reference's Claim walked. Conditions: the pool is as it is made. -/
import Derived.Test.YtebnlhjakiipjaaPrB
set_option linter.unusedVariables false
set_option linter.unusedSimpArgs false
namespace Go.Proofs.Ytebnlhjakiipjaa.Pl
open Go.RowKit Go.Maps Go.Proofs.YtebnlhjakiipjaaW.PrintWords Go.Proofs.YtebnlhjakiipjaaW.PrintMore Go.Proofs.YtebnlhjakiipjaaW.PrintLast Go.Proofs.Ytebnlhjakiipjaa.PPlf
theorem alignedC (M : Pm) (hM : MOk M) {a l : Int} (h0 : 0 ≤ a) (h1 : a < 4294967296) (w : World) : Calls Try.prog 34 #[.agg #[.int .u32 a, .int .i64 l], .int .i64 M.s] w fun e w' => e = .returned (.bool (decide (sub M a l))) ∧ Below w.heap.size w w' := by
  refine weftref10_aligned.calls 34 a l M.s _ w (by
    rw [aligned_all h0 h1 (Nat.le_refl _)]
    unfold sub
    congr 1
    by_cases c1 : l = M.s <;> by_cases c2 : vld a l <;> simp [c1, c2, beq_iff_eq])
theorem containsC (M : Pm) (hM : MOk M) {a : Int} (h0 : 0 ≤ a) (h1 : a < 4294967296) (w : World) : Calls Try.prog 35 #[.agg #[.int .u32 M.na, .int .i64 M.nl], .int .u32 a] w fun e w' => e = .returned (.bool (decide (ins M.na M.nl a))) ∧ Below w.heap.size w w' :=
  weftref1_Contains.calls 34 M.na M.nl a _ w (rcontains_all hM.ok.na0 hM.ok.na1 h0 h1 (Nat.le_refl _))
/-- the taken ones behind a Claim -/
def claimT (e a : Int) (T : List Int) : List Int := if e = 0 then T ++ [a] else T
set_option maxHeartbeats 16000000 in
set_option maxRecDepth 100000 in
theorem rclaim43 (w : World) (b : Nat) (vk vt : Value) (M : Pm) (K L T : List Int) (a l : Int) (ha0 : 0 ≤ a) (ha1 : a < 4294967296) (hM : MOk M) (hL : Lok M L) (hr : L.Pairwise (· < ·)) (h : RS w b vk vt M K T) (ho : RO M K L T) :
    Calls Try.prog 43 #[.pointer (some ⟨b, 0, none⟩), .agg #[.int .u32 a, .int .i64 l]] w fun e w' => e = .returned (.int .i64 (claimE M L a l)) ∧ ∃ vt' T', RS w' b vk vt' M K T' ∧ T' = claimT (claimE M L a l) a T ∧ Turn w w' (b :: vt.ownBlock.toList) ∧ NB vt vt' w := by
  have hb0 := below_alloc (Below.refl w.heap.size w) (.cells #[.int .u32 a, .int .i64 l] 27)
  have kp := heap_alloc_new w (.cells #[.int .u32 a, .int .i64 l] 27)
  have HB0 := Aside0.mk hb0
  have H0 := Aside0.mk h
  have KP := Aside0.mk kp
  have HS := Aside0.mk (h.below hb0)
  have HO := Aside0.mk ho
  have HMM := Aside0.mk hM
  have HTL := Aside0.mk (ho.tlen hM hL hr)
  have HAL := Aside0.mk (fun W : World => alignedC M hM (l := l) ha0 ha1 W)
  have HCN := Aside0.mk (fun W : World => containsC M hM ha0 ha1 W)
  have HPB : Aside0 (b < w.heap.size) := ⟨blk_lt h.blk⟩
  have HSZ := Aside0.mk (sizeF_rng hM.ok.s0 hM.ok.s1)
  obtain ⟨A, c, hvk⟩ := h.rk.sl
  obtain ⟨A', c', hvt⟩ := h.rt.sl
  subst hvk hvt
  obtain ⟨lo, hlo⟩ : ∃ lo, lo = M.mn * sizeF M.s := ⟨_, rfl⟩
  obtain ⟨hi, hhi⟩ : ∃ hi, hi = M.mx * sizeF M.s := ⟨_, rfl⟩
  have HE := Aside0.mk (And.intro hlo hhi)
  have HW : Aside0 (∀ W v, RS W b (.slice A K.length c) v M K T → W.heap[b]? = some (.cells #[.int .u32 M.na, .int .i64 M.nl, .int .i64 M.s, .int .i64 lo, .int .i64 hi, .slice A K.length c, v] 74 (0, 0))) := ⟨fun W v h => by rw [hlo, hhi]; exact h.blk⟩
  obtain ⟨sb, hsb⟩ : ∃ sb, sb = decide (sub M a l) := ⟨_, rfl⟩
  obtain ⟨cb, hcb⟩ : ∃ cb, cb = decide (ins M.na M.nl a) := ⟨_, rfl⟩
  rw [← hsb] at HAL
  rw [← hcb] at HCN
  have HSB := Aside0.mk hsb
  have HCB := Aside0.mk hcb
  have hwa : IntKind.i64.wrap a = a := wrap64_id (by omega) (by omega)
  have hwa2 : wrap64 a = a := w64 (by omega) (by omega)
  have HA := Aside0.mk (And.intro ha0 ha1)
  clear hsb hcb hlo hhi hb0 kp h ho hL hr ha0 ha1
  go_enter Try.func43, Try.ntmps43
  go_upto_region 1 with fail
  generalize w.alloc (.cells #[.int .u32 a, .int .i64 l] 27) = w1 at *
  obtain ⟨w2, rfl⟩ : ∃ w2, w2 = w1 := ⟨_, rfl⟩
  have HS2 : Aside0 (RS w2.drew b (.slice A K.length c) (.slice A' T.length c') M K T) := ⟨HS.out.step (fun k _ => rfl)⟩
  have HP2 := KP
  have HB2 : Aside0 (Below w.heap.size w w2.drew) := ⟨HB0.out.drew⟩
  have q0 : w2.drew.cell? ⟨w.heap.size, 0, none⟩ = some (.int .u32 a) := blk_cell HP2.out 0
  have q1 : w2.drew.cell? ⟨w.heap.size, 1, none⟩ = some (.int .i64 l) := blk_cell HP2.out 1
  have q2 : w2.drew.cell? ⟨b, 2, none⟩ = some (.int .i64 M.s) := blk_cell (HW.out _ _ HS2.out) 2
  refine start_ (n := 7) (S := fun w' => w'.cell? ⟨w.heap.size, 0, none⟩ = some (.int .u32 a) ∧ w'.cell? ⟨w.heap.size, 1, none⟩ = some (.int .i64 l) ∧ w'.cell? ⟨b, 2, none⟩ = some (.int .i64 M.s)) (ds := []) #[false, false, false, false, false, false, false] (by kernel_rfl) rfl rfl ⟨q0, q1, q2⟩ (fun hHeld => ?_)
  refine pure_ (i := 1) (N := some 10) (v := ?_) (a' := ?_) #[false, true, false, false, false, false, false] rfl rfl (by kernel_rfl) (fun _ _ _ h => h) (Or.inl ⟨by rfl, ?_⟩) ?_ ?_
  rotate_left
  · intro w'
    go_simp
    with_reducible rfl
  rotate_left
  · simp only [Act.put, List.setIfInBounds_toArray, List.set_cons_zero, List.set_cons_succ, i64_w, i32_w]
    rfl
  refine pure_ (i := 2) (N := some 11) (v := ?_) (a' := ?_) #[false, true, true, false, false, false, false] rfl rfl (by kernel_rfl) (fun _ _ _ h => h) (Or.inl ⟨by rfl, ?_⟩) ?_ ?_
  rotate_left
  · intro w'
    go_simp
    with_reducible rfl
  rotate_left
  · simp only [Act.put, List.setIfInBounds_toArray, List.set_cons_zero, List.set_cons_succ, i64_w, i32_w]
    rfl
  refine pure_ (i := 3) (N := some 12) (v := ?_) (a' := ?_) #[false, true, true, true, false, false, false] rfl rfl (by kernel_rfl) (fun _ _ _ h => h) (Or.inl ⟨by rfl, ?_⟩) ?_ ?_
  rotate_left
  · intro w'
    go_simp
    with_reducible rfl
  rotate_left
  · simp only [Act.put, List.setIfInBounds_toArray, List.set_cons_zero, List.set_cons_succ, i64_w, i32_w]
    rfl
  refine take_ (i := 0) (N := some 9) (v := ?_) (a' := ?_) #[true, true, true, true, false, false, false] rfl rfl (by kernel_rfl) (fun _ _ _ h => h) (Or.inl ⟨by rfl, ?_⟩) hHeld ?_ ?_
  rotate_left
  · rintro w' ⟨s0, s1, s2⟩
    go_simp
    with_reducible rfl
  rotate_left
  · simp only [Act.put, List.setIfInBounds_toArray, List.set_cons_zero, List.set_cons_succ, i64_w, i32_w]
    rfl
  refine take_ (i := 4) (N := some 13) (v := ?_) (a' := ?_) #[true, true, true, true, true, false, false] rfl rfl (by kernel_rfl) (fun _ _ _ h => h) (Or.inl ⟨by rfl, ?_⟩) hHeld ?_ ?_
  rotate_left
  · rintro w' ⟨s0, s1, s2⟩
    go_simp
    with_reducible rfl
  rotate_left
  · simp only [Act.put, List.setIfInBounds_toArray, List.set_cons_zero, List.set_cons_succ, i64_w, i32_w]
    rfl
  refine one_ (i := 5) (N := some 14) #[true, true, true, true, true, true, false] rfl rfl (by kernel_rfl) (by decide) (fun K hK => ?_)
  refine goes_ Try.func34 (by kernel_rfl) rfl #[.agg #[.int .u32 a, .int .i64 l], .int .i64 M.s] (by rfl) rfl rfl (by simp only [List.map_toArray, List.map_cons, List.map_nil]; rfl) ?_
  with_reducible refine (HAL.out w2.drew).mono ?_
  rintro e_ w3 ⟨rfl, hb3⟩
  refine ⟨_, rfl, ?_⟩
  have HS3 := Aside0.mk (HS2.out.below hb3)
  have HP3 := Aside0.mk (blk_below (show w2.drew.heap[w.heap.size]? = _ from HP2.out) hb3)
  have HB3 := Aside0.mk (below_step HB2.out hb3)
  have z0 := blk_cell HP3.out 0
  have z1 := blk_cell HP3.out 1
  have z2 := blk_cell (HW.out _ _ HS3.out) 2
  refine hK.out _ _ ⟨z0, z1, z2⟩ (fun hHeld => ?_)
  clear hK K
  refine norm_ (a' := ?_) ?_ ?_
  rotate_left
  · show Act.put _ (some 14) _ = _
    simp only [Act.put, List.setIfInBounds_toArray, List.set_cons_zero, List.set_cons_succ, i64_w, i32_w]
    rfl
  refine pure_ (i := 6) (N := some 5) (v := ?_) (a' := ?_) #[true, true, true, true, true, true, true] rfl rfl (by kernel_rfl) (fun _ _ _ h => h) (Or.inl ⟨by rfl, ?_⟩) ?_ ?_
  rotate_left
  · intro w'
    go_simp
    with_reducible rfl
  rotate_left
  · simp only [Act.put, List.setIfInBounds_toArray, List.set_cons_zero, List.set_cons_succ, i64_w, i32_w]
    rfl
  refine done_ (by kernel_rfl) ?_

  clear q0 q1 q2 z0 z1 z2 hb3 HS HB0 KP HS2 HP2 HB2
  try clear hHeld
  cases sb with
  | false =>
    have hns : ¬ sub M a l := of_decide_eq_false HSB.out.symm
    have HCE : Aside0 (claimE M L a l = 100) := ⟨by unfold claimE; rw [if_pos hns]⟩
    go_wp2_with fail
    go_ret
    exact ⟨by rw [HCE.out]; rfl, _, T, H0.out.below HB3.out, by rw [HCE.out]; rfl, Turn.of_below HB3.out _, NB.self _ _⟩
  | true =>
    have hsu : sub M a l := of_decide_eq_true HSB.out.symm
    obtain ⟨x, hx⟩ : ∃ x, x = a / sizeF M.s := ⟨_, rfl⟩
    have hax : a = x * sizeF M.s := by
      have h3 : a % sizeF M.s = 0 := by have := hsu.2.2.2; rw [hsu.1] at this; exact this
      rw [hx]; exact (div_mul h3).symm
    have HX := Aside0.mk (And.intro hx (And.intro hax hsu))
    clear hx hax hsu
    have kx0 := blk_cell HP3.out 0
    go_upto_region 5 with fail
    clear kx0
    obtain ⟨w4, rfl⟩ : ∃ w4, w4 = w3 := ⟨_, rfl⟩
    have HS4 : Aside0 (RS w4.drew b (.slice A K.length c) (.slice A' T.length c') M K T) := ⟨HS3.out.step (fun k _ => rfl)⟩
    have HP4 := HP3
    have HB4 : Aside0 (Below w.heap.size w w4.drew) := ⟨HB3.out.drew⟩
    have q0 : w4.drew.cell? ⟨b, 0, none⟩ = some (.int .u32 M.na) := blk_cell (HW.out _ _ HS4.out) 0
    have q1 : w4.drew.cell? ⟨b, 1, none⟩ = some (.int .i64 M.nl) := blk_cell (HW.out _ _ HS4.out) 1
    have q2 : w4.drew.cell? ⟨w.heap.size, 0, none⟩ = some (.int .u32 a) := blk_cell HP4.out 0
    refine start_ (n := 8) (S := fun w' => w'.cell? ⟨b, 0, none⟩ = some (.int .u32 M.na) ∧ w'.cell? ⟨b, 1, none⟩ = some (.int .i64 M.nl) ∧ w'.cell? ⟨w.heap.size, 0, none⟩ = some (.int .u32 a)) (ds := []) #[false, false, false, false, false, false, false, false] (by kernel_rfl) rfl rfl ⟨q0, q1, q2⟩ (fun hHeld => ?_)
    refine pure_ (i := 0) (N := some 20) (v := ?_) (a' := ?_) #[true, false, false, false, false, false, false, false] rfl rfl (by kernel_rfl) (fun _ _ _ h => h) (Or.inl ⟨by rfl, ?_⟩) ?_ ?_
    rotate_left
    · intro w'
      go_simp
      with_reducible rfl
    rotate_left
    · simp only [Act.put, List.setIfInBounds_toArray, List.set_cons_zero, List.set_cons_succ, i64_w, i32_w]
      rfl
    refine pure_ (i := 1) (N := some 21) (v := ?_) (a' := ?_) #[true, true, false, false, false, false, false, false] rfl rfl (by kernel_rfl) (fun _ _ _ h => h) (Or.inl ⟨by rfl, ?_⟩) ?_ ?_
    rotate_left
    · intro w'
      go_simp
      with_reducible rfl
    rotate_left
    · simp only [Act.put, List.setIfInBounds_toArray, List.set_cons_zero, List.set_cons_succ, i64_w, i32_w]
      rfl
    refine pure_ (i := 2) (N := some 22) (v := ?_) (a' := ?_) #[true, true, true, false, false, false, false, false] rfl rfl (by kernel_rfl) (fun _ _ _ h => h) (Or.inl ⟨by rfl, ?_⟩) ?_ ?_
    rotate_left
    · intro w'
      go_simp
      with_reducible rfl
    rotate_left
    · simp only [Act.put, List.setIfInBounds_toArray, List.set_cons_zero, List.set_cons_succ, i64_w, i32_w]
      rfl
    refine pure_ (i := 4) (N := some 24) (v := ?_) (a' := ?_) #[true, true, true, false, true, false, false, false] rfl rfl (by kernel_rfl) (fun _ _ _ h => h) (Or.inl ⟨by rfl, ?_⟩) ?_ ?_
    rotate_left
    · intro w'
      go_simp
      with_reducible rfl
    rotate_left
    · simp only [Act.put, List.setIfInBounds_toArray, List.set_cons_zero, List.set_cons_succ, i64_w, i32_w]
      rfl
    refine take_ (i := 3) (N := some 23) (v := ?_) (a' := ?_) #[true, true, true, true, true, false, false, false] rfl rfl (by kernel_rfl) (fun _ _ _ h => h) (Or.inl ⟨by rfl, ?_⟩) hHeld ?_ ?_
    rotate_left
    · rintro w' ⟨s0, s1, s2⟩
      go_simp
      with_reducible rfl
    rotate_left
    · simp only [Act.put, List.setIfInBounds_toArray, List.set_cons_zero, List.set_cons_succ, i64_w, i32_w]
      rfl
    refine take_ (i := 5) (N := some 25) (v := ?_) (a' := ?_) #[true, true, true, true, true, true, false, false] rfl rfl (by kernel_rfl) (fun _ _ _ h => h) (Or.inl ⟨by rfl, ?_⟩) hHeld ?_ ?_
    rotate_left
    · rintro w' ⟨s0, s1, s2⟩
      go_simp
      with_reducible rfl
    rotate_left
    · simp only [Act.put, List.setIfInBounds_toArray, List.set_cons_zero, List.set_cons_succ, i64_w, i32_w]
      rfl
    refine one_ (i := 6) (N := some 26) #[true, true, true, true, true, true, true, false] rfl rfl (by kernel_rfl) (by decide) (fun K hK => ?_)
    refine goes_ Try.func35 (by kernel_rfl) rfl #[.agg #[.int .u32 M.na, .int .i64 M.nl], .int .u32 a] (by rfl) rfl rfl (by simp only [List.map_toArray, List.map_cons, List.map_nil]; rfl) ?_
    with_reducible refine (HCN.out w4.drew).mono ?_
    rintro e_ w5 ⟨rfl, hb5⟩
    refine ⟨_, rfl, ?_⟩
    have HS5 := Aside0.mk (HS4.out.below hb5)
    have HP5 := Aside0.mk (blk_below (show w4.drew.heap[w.heap.size]? = _ from HP4.out) hb5)
    have HB5 := Aside0.mk (below_step HB4.out hb5)
    have z0 := blk_cell (HW.out _ _ HS5.out) 0
    have z1 := blk_cell (HW.out _ _ HS5.out) 1
    have z2 := blk_cell HP5.out 0
    refine hK.out _ _ ⟨z0, z1, z2⟩ (fun hHeld => ?_)
    clear hK K
    refine norm_ (a' := ?_) ?_ ?_
    rotate_left
    · show Act.put _ (some 26) _ = _
      simp only [Act.put, List.setIfInBounds_toArray, List.set_cons_zero, List.set_cons_succ, i64_w, i32_w]
      rfl
    refine pure_ (i := 7) (N := some 5) (v := ?_) (a' := ?_) #[true, true, true, true, true, true, true, true] rfl rfl (by kernel_rfl) (fun _ _ _ h => h) (Or.inl ⟨by rfl, ?_⟩) ?_ ?_
    rotate_left
    · intro w'
      go_simp
      with_reducible rfl
    rotate_left
    · simp only [Act.put, List.setIfInBounds_toArray, List.set_cons_zero, List.set_cons_succ, i64_w, i32_w]
      rfl
    refine done_ (by kernel_rfl) ?_

    clear q0 q1 q2 z0 z1 z2 hb5 HS3 HP3 HB3 HS4 HP4 HB4
    try clear hHeld
    have hK := HW.out _ _ HS5.out
    have kc5 := blk_cell hK 5
    clear hK
    have HIK : Aside0 (a ∈ K ↔ x ∈ M.kept) := ⟨by rw [HX.out.2.1]; exact HO.out.k_mem HMM.out x⟩
    have HIT : Aside0 (a ∈ T ↔ x ∈ L) := ⟨by rw [HX.out.2.1]; exact HO.out.t_mem HMM.out x⟩
    obtain ⟨bk, hbk⟩ : ∃ bk, bk = decide (a ∈ K) := ⟨_, rfl⟩
    obtain ⟨bt, hbt⟩ : ∃ bt, bt = decide (a ∈ T) := ⟨_, rfl⟩
    have HBK := Aside0.mk hbk
    have HBT := Aside0.mk hbt
    have HIN := Aside0.mk (inC HS5.out.rk (by have := HO.out.kl; omega) a)
    rw [← hbk] at HIN
    clear hbk hbt
    go_wp2_with fail
    refine HIN.out.mono ?_
    rintro e_ w6 ⟨rfl, hb6⟩
    have HS6 := Aside0.mk (HS5.out.below hb6)
    have HP6 := Aside0.mk (blk_below HP5.out hb6)
    have HB6 := Aside0.mk (below_step HB5.out hb6)
    clear hb6 kc5 HS5 HP5 HB5 HIN
    have hK := HW.out _ _ HS6.out
    have kc3 := blk_cell hK 3
    have kc4 := blk_cell hK 4
    have kc6 := blk_cell hK 6
    clear hK
    have HLO : Aside0 (a < lo ↔ x < M.mn) := ⟨by rw [HX.out.2.1, HE.out.1]; exact Int.mul_lt_mul_right (by have := HSZ.out; omega)⟩
    have HHI : Aside0 (hi < a ↔ M.mx < x) := ⟨by rw [HX.out.2.1, HE.out.2]; exact Int.mul_lt_mul_right (by have := HSZ.out; omega)⟩
    cases cb with
    | false =>
      have hni : ¬ ins M.na M.nl a := of_decide_eq_false HCB.out.symm
      have HCE : Aside0 (claimE M L a l = 101) := ⟨by unfold claimE; rw [if_neg (fun h => h HX.out.2.2), if_pos (.inl hni)]⟩
      go_wp2_with fail
      go_ret
      exact ⟨by rw [HCE.out]; rfl, _, T, H0.out.below HB6.out, by rw [HCE.out]; rfl, Turn.of_below HB6.out _, NB.self _ _⟩
    | true =>
      have HINS : Aside0 (ins M.na M.nl a) := ⟨of_decide_eq_true HCB.out.symm⟩
      by_cases hc1 : a < lo
      · have hd1 : decide (a < lo) = true := decide_eq_true hc1
        cases bk with
        | false =>
          have haw : away M x := ⟨.inl (HLO.out.1 hc1), fun h => by have h1 := HIK.out.2 h; have h2 := HBK.out; simp [h1] at h2⟩
          have HCE : Aside0 (claimE M L a l = 101) := ⟨by unfold claimE; rw [if_neg (fun h => h HX.out.2.2), if_pos (.inr (by rw [← HX.out.1]; exact haw))]⟩
          go_wp2_with fail
          go_ret
          exact ⟨by rw [HCE.out]; rfl, _, T, H0.out.below HB6.out, by rw [HCE.out]; rfl, Turn.of_below HB6.out _, NB.self _ _⟩
        | true =>
          have hnaw : ¬ away M x := fun h => h.2 (HIK.out.1 (of_decide_eq_true HBK.out.symm))
          have HTT := Aside0.mk (inC HS6.out.rt HTL.out a)
          rw [← HBT.out] at HTT
          have HNA := Aside0.mk hnaw
          clear hnaw
          go_wp2_with fail
          refine HTT.out.mono ?_
          rintro e_ w7 ⟨rfl, hb7⟩
          have HS7 := Aside0.mk (HS6.out.below hb7)
          have HB7 := Aside0.mk (below_step HB6.out hb7)
          clear hb7 kc3 kc4 kc6 HTT
          cases bt with
          | true =>
            have hxl : x ∈ L := HIT.out.1 (of_decide_eq_true HBT.out.symm)
            have HCE : Aside0 (claimE M L a l = 102) := ⟨by unfold claimE; rw [if_neg (fun h => h HX.out.2.2), if_neg (not_or.2 ⟨fun h => h HINS.out, by rw [← HX.out.1]; exact HNA.out⟩), if_pos (by rw [← HX.out.1]; exact hxl)]⟩
            go_wp2_with fail
            go_ret
            exact ⟨by rw [HCE.out]; rfl, _, T, H0.out.below HB7.out, by rw [HCE.out]; rfl, Turn.of_below HB7.out _, NB.self _ _⟩
          | false =>
            have hxl : x ∉ L := fun h => by have h1 := HIT.out.2 h; have h2 := HBT.out; simp [h1] at h2
            have HCE : Aside0 (claimE M L a l = 0) := ⟨by unfold claimE; rw [if_neg (fun h => h HX.out.2.2), if_neg (not_or.2 ⟨fun h => h HINS.out, by rw [← HX.out.1]; exact HNA.out⟩), if_neg (by rw [← HX.out.1]; exact hxl)]⟩
            go_upto_region 12 with fail
            obtain ⟨v7, w8, r7, o7, hb7, g7, l7⟩ := HS7.out.rt.app1 (Nat.zero_le _) a (by have := HTL.out; omega)
            obtain ⟨s7, c7, e7⟩ := o7.sl
            rw [List.length_append, List.length_singleton] at e7
            subst e7
            have R7 := Aside0.mk r7
            have HPUT := Aside0.mk (HS7.out.put o7 g7 l7)
            have L7 : Aside0 (NB _ _ _) := ⟨l7⟩
            have hK4 := HW.out _ _ HS7.out
            have kc6 := blk_cell hK4 6
            have z1 : (w7.alloc (.cells #[.int .i64 a] 3)).cell? ⟨b, 6, none⟩ = some (.slice A' T.length c') := blk_cell (blk_below hK4 (below_alloc (Below.refl _ _) _)) 6
            have hb7x : w8.heap[b]? = _ := (g7.block b (blk_lt hK4) (fun e => HS7.out.nb.2 e.symm)).trans hK4
            have y3 : w8.frozen? ⟨b, 6, none⟩ = false := blk_frozen hb7x 6
            have y1 : w8.cell? ⟨b, 6, none⟩ = some (.slice A' T.length c') := blk_cell hb7x 6
            clear r7 o7 hK4 hb7x g7 l7
            go_wp2_with ((with_reducible refine gate_builtin (b := .append) (xs := #[.tmp 66, .tmp 68]) rfl ?_); at_builtin; refine wpList_append_run rfl (.tmp 66) (.tmp 68) 72 rfl rfl rfl R7.out ?_)
            go_ret
            exact ⟨by rw [HCE.out]; rfl, _, T ++ [a], HPUT.out.1, by rw [HCE.out]; rfl, (Turn.of_below HB7.out _).trans HPUT.out.2 (fun k hk => .inl hk), L7.out.less HB7.out.size⟩
      · have hd1 : decide (a < lo) = false := decide_eq_false hc1
        by_cases hc2 : hi < a
        · have hd2 : decide (hi < a) = true := decide_eq_true hc2
          cases bk with
          | false =>
            have haw : away M x := ⟨.inr (HHI.out.1 hc2), fun h => by have h1 := HIK.out.2 h; have h2 := HBK.out; simp [h1] at h2⟩
            have HCE : Aside0 (claimE M L a l = 101) := ⟨by unfold claimE; rw [if_neg (fun h => h HX.out.2.2), if_pos (.inr (by rw [← HX.out.1]; exact haw))]⟩
            go_wp2_with fail
            go_ret
            exact ⟨by rw [HCE.out]; rfl, _, T, H0.out.below HB6.out, by rw [HCE.out]; rfl, Turn.of_below HB6.out _, NB.self _ _⟩
          | true =>
            have hnaw : ¬ away M x := fun h => h.2 (HIK.out.1 (of_decide_eq_true HBK.out.symm))
            have HTT := Aside0.mk (inC HS6.out.rt HTL.out a)
            rw [← HBT.out] at HTT
            have HNA := Aside0.mk hnaw
            clear hnaw
            go_wp2_with fail
            refine HTT.out.mono ?_
            rintro e_ w7 ⟨rfl, hb7⟩
            have HS7 := Aside0.mk (HS6.out.below hb7)
            have HB7 := Aside0.mk (below_step HB6.out hb7)
            clear hb7 kc3 kc4 kc6 HTT
            cases bt with
            | true =>
              have hxl : x ∈ L := HIT.out.1 (of_decide_eq_true HBT.out.symm)
              have HCE : Aside0 (claimE M L a l = 102) := ⟨by unfold claimE; rw [if_neg (fun h => h HX.out.2.2), if_neg (not_or.2 ⟨fun h => h HINS.out, by rw [← HX.out.1]; exact HNA.out⟩), if_pos (by rw [← HX.out.1]; exact hxl)]⟩
              go_wp2_with fail
              go_ret
              exact ⟨by rw [HCE.out]; rfl, _, T, H0.out.below HB7.out, by rw [HCE.out]; rfl, Turn.of_below HB7.out _, NB.self _ _⟩
            | false =>
              have hxl : x ∉ L := fun h => by have h1 := HIT.out.2 h; have h2 := HBT.out; simp [h1] at h2
              have HCE : Aside0 (claimE M L a l = 0) := ⟨by unfold claimE; rw [if_neg (fun h => h HX.out.2.2), if_neg (not_or.2 ⟨fun h => h HINS.out, by rw [← HX.out.1]; exact HNA.out⟩), if_neg (by rw [← HX.out.1]; exact hxl)]⟩
              go_upto_region 12 with fail
              obtain ⟨v7, w8, r7, o7, hb7, g7, l7⟩ := HS7.out.rt.app1 (Nat.zero_le _) a (by have := HTL.out; omega)
              obtain ⟨s7, c7, e7⟩ := o7.sl
              rw [List.length_append, List.length_singleton] at e7
              subst e7
              have R7 := Aside0.mk r7
              have HPUT := Aside0.mk (HS7.out.put o7 g7 l7)
              have L7 : Aside0 (NB _ _ _) := ⟨l7⟩
              have hK4 := HW.out _ _ HS7.out
              have kc6 := blk_cell hK4 6
              have z1 : (w7.alloc (.cells #[.int .i64 a] 3)).cell? ⟨b, 6, none⟩ = some (.slice A' T.length c') := blk_cell (blk_below hK4 (below_alloc (Below.refl _ _) _)) 6
              have hb7x : w8.heap[b]? = _ := (g7.block b (blk_lt hK4) (fun e => HS7.out.nb.2 e.symm)).trans hK4
              have y3 : w8.frozen? ⟨b, 6, none⟩ = false := blk_frozen hb7x 6
              have y1 : w8.cell? ⟨b, 6, none⟩ = some (.slice A' T.length c') := blk_cell hb7x 6
              clear r7 o7 hK4 hb7x g7 l7
              go_wp2_with ((with_reducible refine gate_builtin (b := .append) (xs := #[.tmp 66, .tmp 68]) rfl ?_); at_builtin; refine wpList_append_run rfl (.tmp 66) (.tmp 68) 72 rfl rfl rfl R7.out ?_)
              go_ret
              exact ⟨by rw [HCE.out]; rfl, _, T ++ [a], HPUT.out.1, by rw [HCE.out]; rfl, (Turn.of_below HB7.out _).trans HPUT.out.2 (fun k hk => .inl hk), L7.out.less HB7.out.size⟩
        · have hd2 : decide (hi < a) = false := decide_eq_false hc2
          have hnaw : ¬ away M x := fun h => h.1.elim (fun h => hc1 (HLO.out.2 h)) (fun h => hc2 (HHI.out.2 h))
          have HTT := Aside0.mk (inC HS6.out.rt HTL.out a)
          rw [← HBT.out] at HTT
          have HNA := Aside0.mk hnaw
          clear hnaw
          go_wp2_with fail
          refine HTT.out.mono ?_
          rintro e_ w7 ⟨rfl, hb7⟩
          have HS7 := Aside0.mk (HS6.out.below hb7)
          have HB7 := Aside0.mk (below_step HB6.out hb7)
          clear hb7 kc3 kc4 kc6 HTT
          cases bt with
          | true =>
            have hxl : x ∈ L := HIT.out.1 (of_decide_eq_true HBT.out.symm)
            have HCE : Aside0 (claimE M L a l = 102) := ⟨by unfold claimE; rw [if_neg (fun h => h HX.out.2.2), if_neg (not_or.2 ⟨fun h => h HINS.out, by rw [← HX.out.1]; exact HNA.out⟩), if_pos (by rw [← HX.out.1]; exact hxl)]⟩
            go_wp2_with fail
            go_ret
            exact ⟨by rw [HCE.out]; rfl, _, T, H0.out.below HB7.out, by rw [HCE.out]; rfl, Turn.of_below HB7.out _, NB.self _ _⟩
          | false =>
            have hxl : x ∉ L := fun h => by have h1 := HIT.out.2 h; have h2 := HBT.out; simp [h1] at h2
            have HCE : Aside0 (claimE M L a l = 0) := ⟨by unfold claimE; rw [if_neg (fun h => h HX.out.2.2), if_neg (not_or.2 ⟨fun h => h HINS.out, by rw [← HX.out.1]; exact HNA.out⟩), if_neg (by rw [← HX.out.1]; exact hxl)]⟩
            go_upto_region 12 with fail
            obtain ⟨v7, w8, r7, o7, hb7, g7, l7⟩ := HS7.out.rt.app1 (Nat.zero_le _) a (by have := HTL.out; omega)
            obtain ⟨s7, c7, e7⟩ := o7.sl
            rw [List.length_append, List.length_singleton] at e7
            subst e7
            have R7 := Aside0.mk r7
            have HPUT := Aside0.mk (HS7.out.put o7 g7 l7)
            have L7 : Aside0 (NB _ _ _) := ⟨l7⟩
            have hK4 := HW.out _ _ HS7.out
            have kc6 := blk_cell hK4 6
            have z1 : (w7.alloc (.cells #[.int .i64 a] 3)).cell? ⟨b, 6, none⟩ = some (.slice A' T.length c') := blk_cell (blk_below hK4 (below_alloc (Below.refl _ _) _)) 6
            have hb7x : w8.heap[b]? = _ := (g7.block b (blk_lt hK4) (fun e => HS7.out.nb.2 e.symm)).trans hK4
            have y3 : w8.frozen? ⟨b, 6, none⟩ = false := blk_frozen hb7x 6
            have y1 : w8.cell? ⟨b, 6, none⟩ = some (.slice A' T.length c') := blk_cell hb7x 6
            clear r7 o7 hK4 hb7x g7 l7
            go_wp2_with ((with_reducible refine gate_builtin (b := .append) (xs := #[.tmp 66, .tmp 68]) rfl ?_); at_builtin; refine wpList_append_run rfl (.tmp 66) (.tmp 68) 72 rfl rfl rfl R7.out ?_)
            go_ret
            exact ⟨by rw [HCE.out]; rfl, _, T ++ [a], HPUT.out.1, by rw [HCE.out]; rfl, (Turn.of_below HB7.out _).trans HPUT.out.2 (fun k hk => .inl hk), L7.out.less HB7.out.size⟩
end Go.Proofs.Ytebnlhjakiipjaa.Pl
