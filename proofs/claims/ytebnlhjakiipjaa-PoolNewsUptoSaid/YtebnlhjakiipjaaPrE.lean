/- The reference's Free walked. Conditions: the pool is as it is made. -/
import Derived.Test.YtebnlhjakiipjaaPrB
set_option linter.unusedVariables false
set_option linter.unusedSimpArgs false
namespace Go.Proofs.Ytebnlhjakiipjaa.Pl
open Go.RowKit Go.Maps Go.Proofs.YtebnlhjakiipjaaW.PrintWords Go.Proofs.YtebnlhjakiipjaaW.PrintMore Go.Proofs.YtebnlhjakiipjaaW.PrintLast Go.Proofs.Ytebnlhjakiipjaa.PPlf
/-- the taken ones behind a Free -/
def freeT (e a : Int) (T : List Int) : List Int := if e = 0 then T.filter (fun k => decide (k ≠ a)) else T
theorem RO.free_iff {M : Pm} {K L T : List Int} {a l : Int} (hM : MOk M) (h : RO M K L T) : freeE M L a l = 0 ↔ l = M.s ∧ a ∈ T := by
  rw [freeE_zero]
  constructor
  · rintro ⟨h1, h2⟩
    have h3 : a % sizeF M.s = 0 := by have := h1.2.2.2; rw [h1.1] at this; exact this
    exact ⟨h1.1, (h.tm a).2 ⟨_, h2, (div_mul h3).symm⟩⟩
  · rintro ⟨h1, h2⟩
    obtain ⟨x, hx, e⟩ := (h.tm a).1 h2
    refine ⟨⟨h1, ?_⟩, ?_⟩
    · rw [h1, e]; exact ⟨hM.ok.s0, hM.ok.s1, mul_mod _ _⟩
    · rw [e, mul_div hM.ok.s0 hM.ok.s1]; exact hx
theorem freeE_three {M : Pm} {L : List Int} {a l : Int} (h : ¬ freeE M L a l = 0) : freeE M L a l = 3 := by
  unfold freeE at h ⊢
  split at h
  · exact absurd rfl h
  · rename_i c; rw [if_neg c]
set_option maxHeartbeats 16000000 in
set_option maxRecDepth 100000 in
theorem rfree44 (w : World) (b : Nat) (vk vt : Value) (M : Pm) (K L T : List Int) (a l : Int) (ha0 : 0 ≤ a) (ha1 : a < 4294967296) (hM : MOk M) (hL : Lok M L) (hr : L.Pairwise (· < ·)) (h : RS w b vk vt M K T) (ho : RO M K L T) :
    Calls Try.prog 44 #[.pointer (some ⟨b, 0, none⟩), .agg #[.int .u32 a, .int .i64 l]] w fun e w' => e = .returned (.int .i64 (freeE M L a l)) ∧ ∃ vt' T', RS w' b vk vt' M K T' ∧ T' = freeT (freeE M L a l) a T ∧ Turn w w' (b :: vt.ownBlock.toList) ∧ NB vt vt' w := by
  have hb0 := below_alloc (Below.refl w.heap.size w) (.cells #[.int .u32 a, .int .i64 l] 27)
  have kp := heap_alloc_new w (.cells #[.int .u32 a, .int .i64 l] 27)
  have HB0 := Aside0.mk hb0
  have H0 := Aside0.mk h
  have KP := Aside0.mk kp
  have HS := Aside0.mk (h.below hb0)
  have HTL := Aside0.mk (ho.tlen hM hL hr)
  have HFI := Aside0.mk (ho.free_iff (a := a) (l := l) hM)
  have HPB : Aside0 (b < w.heap.size) := ⟨blk_lt h.blk⟩
  obtain ⟨A, c, hvk⟩ := h.rk.sl
  obtain ⟨A', c', hvt⟩ := h.rt.sl
  subst hvk hvt
  obtain ⟨lo, hlo⟩ : ∃ lo, lo = M.mn * sizeF M.s := ⟨_, rfl⟩
  obtain ⟨hi, hhi⟩ : ∃ hi, hi = M.mx * sizeF M.s := ⟨_, rfl⟩
  have HW : Aside0 (∀ W v, RS W b (.slice A K.length c) v M K T → W.heap[b]? = some (.cells #[.int .u32 M.na, .int .i64 M.nl, .int .i64 M.s, .int .i64 lo, .int .i64 hi, .slice A K.length c, v] 74 (0, 0))) := ⟨fun W v h => by rw [hlo, hhi]; exact h.blk⟩
  obtain ⟨bt, hbt⟩ : ∃ bt, bt = decide (a ∈ T) := ⟨_, rfl⟩
  have HBT := Aside0.mk hbt
  have hwa2 : wrap64 a = a := w64 (by omega) (by omega)
  have HWA := Aside0.mk hwa2
  have HA := Aside0.mk (And.intro ha0 ha1)
  clear hbt hlo hhi hb0 kp h ho hL hr ha0 ha1 hwa2
  go_enter Try.func44, Try.ntmps44
  go_upto_region 1 with fail
  generalize w.alloc (.cells #[.int .u32 a, .int .i64 l] 27) = w1 at *
  obtain ⟨w2, rfl⟩ : ∃ w2, w2 = w1 := ⟨_, rfl⟩
  have HS2 : Aside0 (RS w2.drew b (.slice A K.length c) (.slice A' T.length c') M K T) := ⟨HS.out.step (fun k _ => rfl)⟩
  have HP2 := KP
  have HB2 : Aside0 (Below w.heap.size w w2.drew) := ⟨HB0.out.drew⟩
  have HIN : Aside0 (Calls Try.prog 36 #[.slice A' T.length c', .int .i64 (wrap64 a)] w2.drew fun e w' => e = .returned (.bool bt) ∧ Below w2.drew.heap.size w2.drew w') := ⟨by rw [HWA.out, HBT.out]; exact inC HS2.out.rt HTL.out a⟩
  have q0 : w2.drew.cell? ⟨b, 6, none⟩ = some (.slice A' T.length c') := blk_cell (HW.out _ _ HS2.out) 6
  have q1 : w2.drew.cell? ⟨w.heap.size, 0, none⟩ = some (.int .u32 a) := blk_cell HP2.out 0
  refine start_ (n := 9) (S := fun w' => w'.cell? ⟨b, 6, none⟩ = some (.slice A' T.length c') ∧ w'.cell? ⟨w.heap.size, 0, none⟩ = some (.int .u32 a)) (ds := []) #[false, false, false, false, false, false, false, false, false] (by kernel_rfl) rfl rfl ⟨q0, q1⟩ (fun hHeld => ?_)
  refine pure_ (i := 0) (N := some 8) (v := ?_) (a' := ?_) #[true, false, false, false, false, false, false, false, false] rfl rfl (by kernel_rfl) (fun _ _ _ h => h) (Or.inl ⟨by rfl, ?_⟩) ?_ ?_
  rotate_left
  · intro w'
    go_simp
    with_reducible rfl
  rotate_left
  · simp only [Act.put, List.setIfInBounds_toArray, List.set_cons_zero, List.set_cons_succ, i64_w, i32_w]
    rfl
  refine pure_ (i := 1) (N := some 9) (v := ?_) (a' := ?_) #[true, true, false, false, false, false, false, false, false] rfl rfl (by kernel_rfl) (fun _ _ _ h => h) (Or.inl ⟨by rfl, ?_⟩) ?_ ?_
  rotate_left
  · intro w'
    go_simp
    with_reducible rfl
  rotate_left
  · simp only [Act.put, List.setIfInBounds_toArray, List.set_cons_zero, List.set_cons_succ, i64_w, i32_w]
    rfl
  refine pure_ (i := 2) (N := some 10) (v := ?_) (a' := ?_) #[true, true, true, false, false, false, false, false, false] rfl rfl (by kernel_rfl) (fun _ _ _ h => h) (Or.inl ⟨by rfl, ?_⟩) ?_ ?_
  rotate_left
  · intro w'
    go_simp
    with_reducible rfl
  rotate_left
  · simp only [Act.put, List.setIfInBounds_toArray, List.set_cons_zero, List.set_cons_succ, i64_w, i32_w]
    rfl
  refine pure_ (i := 4) (N := some 12) (v := ?_) (a' := ?_) #[true, true, true, false, true, false, false, false, false] rfl rfl (by kernel_rfl) (fun _ _ _ h => h) (Or.inl ⟨by rfl, ?_⟩) ?_ ?_
  rotate_left
  · intro w'
    go_simp
    with_reducible rfl
  rotate_left
  · simp only [Act.put, List.setIfInBounds_toArray, List.set_cons_zero, List.set_cons_succ, i64_w, i32_w]
    rfl
  refine take_ (i := 3) (N := some 11) (v := ?_) (a' := ?_) #[true, true, true, true, true, false, false, false, false] rfl rfl (by kernel_rfl) (fun _ _ _ h => h) (Or.inl ⟨by rfl, ?_⟩) hHeld ?_ ?_
  rotate_left
  · rintro w' ⟨s0, s1⟩
    go_simp
    with_reducible rfl
  rotate_left
  · simp only [Act.put, List.setIfInBounds_toArray, List.set_cons_zero, List.set_cons_succ, i64_w, i32_w]
    rfl
  refine take_ (i := 5) (N := some 13) (v := ?_) (a' := ?_) #[true, true, true, true, true, true, false, false, false] rfl rfl (by kernel_rfl) (fun _ _ _ h => h) (Or.inl ⟨by rfl, ?_⟩) hHeld ?_ ?_
  rotate_left
  · rintro w' ⟨s0, s1⟩
    go_simp
    with_reducible rfl
  rotate_left
  · simp only [Act.put, List.setIfInBounds_toArray, List.set_cons_zero, List.set_cons_succ, i64_w, i32_w]
    rfl
  refine pure_ (i := 6) (N := some 14) (v := ?_) (a' := ?_) #[true, true, true, true, true, true, true, false, false] rfl rfl (by kernel_rfl) (fun _ _ _ h => h) (Or.inl ⟨by rfl, ?_⟩) ?_ ?_
  rotate_left
  · intro w'
    go_simp
    with_reducible rfl
  rotate_left
  · simp only [Act.put, List.setIfInBounds_toArray, List.set_cons_zero, List.set_cons_succ, i64_w, i32_w]
    rfl
  refine one_ (i := 7) (N := some 15) #[true, true, true, true, true, true, true, true, false] rfl rfl (by kernel_rfl) (by decide) (fun K hK => ?_)
  refine goes_ Try.func36 (by kernel_rfl) rfl #[.slice A' T.length c', .int .i64 (wrap64 a)] (by rfl) rfl rfl (by simp only [List.map_toArray, List.map_cons, List.map_nil]; rfl) ?_
  with_reducible refine (HIN.out).mono ?_
  rintro e_ w3 ⟨rfl, hb3⟩
  refine ⟨_, rfl, ?_⟩
  have HS3 := Aside0.mk (HS2.out.below hb3)
  have HP3 := Aside0.mk (blk_below (show w2.drew.heap[w.heap.size]? = _ from HP2.out) hb3)
  have HB3 := Aside0.mk (below_step HB2.out hb3)
  have z0 := blk_cell (HW.out _ _ HS3.out) 6
  have z1 := blk_cell HP3.out 0
  refine hK.out _ _ ⟨z0, z1⟩ (fun hHeld => ?_)
  clear hK K
  refine norm_ (a' := ?_) ?_ ?_
  rotate_left
  · show Act.put _ (some 15) _ = _
    simp only [Act.put, List.setIfInBounds_toArray, List.set_cons_zero, List.set_cons_succ, i64_w, i32_w]
    rfl
  refine pure_ (i := 8) (N := some 5) (v := ?_) (a' := ?_) #[true, true, true, true, true, true, true, true, true] rfl rfl (by kernel_rfl) (fun _ _ _ h => h) (Or.inl ⟨by rfl, ?_⟩) ?_ ?_
  rotate_left
  · intro w'
    go_simp
    with_reducible rfl
  rotate_left
  · simp only [Act.put, List.setIfInBounds_toArray, List.set_cons_zero, List.set_cons_succ, i64_w, i32_w]
    rfl
  refine done_ (by kernel_rfl) ?_

  clear q0 q1 z0 z1 hb3 HS HB0 KP HS2 HP2 HB2 HIN
  try clear hHeld
  by_cases hls : l = M.s
  · have hne : (l != M.s) = false := by simp [hls]
    have HLS := Aside0.mk hls
    clear hls
    go_upto_region 2 with fail
    obtain ⟨w5, rfl⟩ : ∃ w5, w5 = w3 := ⟨_, rfl⟩
    have HS5 : Aside0 (RS w5.drew b (.slice A K.length c) (.slice A' T.length c') M K T) := ⟨HS3.out.step (fun k _ => rfl)⟩
    have HP5 : Aside0 (w5.drew.heap[w.heap.size]? = _) := HP3
    have HB5 : Aside0 (Below w.heap.size w w5.drew) := ⟨HB3.out.drew⟩
    have q0 : w5.drew.cell? ⟨w.heap.size, 1, none⟩ = some (.int .i64 l) := blk_cell HP5.out 1
    have q1 : w5.drew.cell? ⟨b, 2, none⟩ = some (.int .i64 M.s) := blk_cell (HW.out _ _ HS5.out) 2
    refine start_ (n := 11) (S := fun w' => w'.cell? ⟨w.heap.size, 1, none⟩ = some (.int .i64 l) ∧ w'.cell? ⟨b, 2, none⟩ = some (.int .i64 M.s)) (ds := []) #[false, false, false, false, false, false, false, false, false, false, false] (by kernel_rfl) rfl rfl ⟨q0, q1⟩ (fun hHeld => ?_)
    refine pure_ (i := 0) (N := some 16) (v := ?_) (a' := ?_) #[true, false, false, false, false, false, false, false, false, false, false] rfl rfl (by kernel_rfl) (fun _ _ _ h => h) (Or.inl ⟨by rfl, ?_⟩) ?_ ?_
    rotate_left
    · intro w'
      go_simp
      with_reducible rfl
    rotate_left
    · simp only [Act.put, List.setIfInBounds_toArray, List.set_cons_zero, List.set_cons_succ, i64_w, i32_w]
      rfl
    refine pure_ (i := 2) (N := some 18) (v := ?_) (a' := ?_) #[true, false, true, false, false, false, false, false, false, false, false] rfl rfl (by kernel_rfl) (fun _ _ _ h => h) (Or.inl ⟨by rfl, ?_⟩) ?_ ?_
    rotate_left
    · intro w'
      go_simp
      with_reducible rfl
    rotate_left
    · simp only [Act.put, List.setIfInBounds_toArray, List.set_cons_zero, List.set_cons_succ, i64_w, i32_w]
      rfl
    refine pure_ (i := 3) (N := some 19) (v := ?_) (a' := ?_) #[true, false, true, true, false, false, false, false, false, false, false] rfl rfl (by kernel_rfl) (fun _ _ _ h => h) (Or.inl ⟨by rfl, ?_⟩) ?_ ?_
    rotate_left
    · intro w'
      go_simp
      with_reducible rfl
    rotate_left
    · simp only [Act.put, List.setIfInBounds_toArray, List.set_cons_zero, List.set_cons_succ, i64_w, i32_w]
      rfl
    refine pure_ (i := 4) (N := some 20) (v := ?_) (a' := ?_) #[true, false, true, true, true, false, false, false, false, false, false] rfl rfl (by kernel_rfl) (fun _ _ _ h => h) (Or.inl ⟨by rfl, ?_⟩) ?_ ?_
    rotate_left
    · intro w'
      go_simp
      with_reducible rfl
    rotate_left
    · simp only [Act.put, List.setIfInBounds_toArray, List.set_cons_zero, List.set_cons_succ, i64_w, i32_w]
      rfl
    refine take_ (i := 1) (N := some 17) (v := ?_) (a' := ?_) #[true, true, true, true, true, false, false, false, false, false, false] rfl rfl (by kernel_rfl) (fun _ _ _ h => h) (Or.inl ⟨by rfl, ?_⟩) hHeld ?_ ?_
    rotate_left
    · rintro w' ⟨s0, s1⟩
      go_simp
      with_reducible rfl
    rotate_left
    · simp only [Act.put, List.setIfInBounds_toArray, List.set_cons_zero, List.set_cons_succ, i64_w, i32_w]
      rfl
    refine take_ (i := 5) (N := some 21) (v := ?_) (a' := ?_) #[true, true, true, true, true, true, false, false, false, false, false] rfl rfl (by kernel_rfl) (fun _ _ _ h => h) (Or.inl ⟨by rfl, ?_⟩) hHeld ?_ ?_
    rotate_left
    · rintro w' ⟨s0, s1⟩
      go_simp
      with_reducible rfl
    rotate_left
    · simp only [Act.put, List.setIfInBounds_toArray, List.set_cons_zero, List.set_cons_succ, i64_w, i32_w]
      rfl
    refine pure_ (i := 6) (N := some 22) (v := ?_) (a' := ?_) #[true, true, true, true, true, true, true, false, false, false, false] rfl rfl (by kernel_rfl) (fun _ _ _ h => h) (Or.inl ⟨by rfl, ?_⟩) ?_ ?_
    rotate_left
    · intro w'
      go_simp
      with_reducible rfl
    rotate_left
    · simp only [Act.put, List.setIfInBounds_toArray, List.set_cons_zero, List.set_cons_succ, i64_w, i32_w]
      rfl
    refine pure_ (i := 7) (N := some 23) (v := ?_) (a' := ?_) #[true, true, true, true, true, true, true, true, false, false, false] rfl rfl (by kernel_rfl) (fun _ _ _ h => h) (Or.inl ⟨by rfl, ?_⟩) ?_ ?_
    rotate_left
    · intro w'
      go_simp
      with_reducible rfl
    rotate_left
    · simp only [Act.put, List.setIfInBounds_toArray, List.set_cons_zero, List.set_cons_succ, i64_w, i32_w]
      rfl
    refine pure_ (i := 8) (N := some 24) (v := ?_) (a' := ?_) #[true, true, true, true, true, true, true, true, true, false, false] rfl rfl (by kernel_rfl) (fun _ _ _ h => h) (Or.inl ⟨by rfl, ?_⟩) ?_ ?_
    rotate_left
    · intro w'
      go_simp
      with_reducible rfl
    rotate_left
    · simp only [Act.put, List.setIfInBounds_toArray, List.set_cons_zero, List.set_cons_succ, i64_w, i32_w]
      rfl
    refine pure_ (i := 9) (N := some 25) (v := ?_) (a' := ?_) #[true, true, true, true, true, true, true, true, true, true, false] rfl rfl (by kernel_rfl) (fun _ _ _ h => h) (Or.inl ⟨by rfl, ?_⟩) ?_ ?_
    rotate_left
    · intro w'
      go_simp
      with_reducible rfl
    rotate_left
    · simp only [Act.put, List.setIfInBounds_toArray, List.set_cons_zero, List.set_cons_succ, i64_w, i32_w]
      rfl
    refine pure_ (i := 10) (N := some 26) (v := ?_) (a' := ?_) #[true, true, true, true, true, true, true, true, true, true, true] rfl rfl (by kernel_rfl) (fun _ _ _ h => h) (Or.inl ⟨by rfl, ?_⟩) ?_ ?_
    rotate_left
    · intro w'
      go_simp
      with_reducible rfl
    rotate_left
    · simp only [Act.put, List.setIfInBounds_toArray, List.set_cons_zero, List.set_cons_succ, i64_w, i32_w]
      rfl
    refine done_ (by kernel_rfl) ?_

    clear q0 q1 hne HS3 HP3 HB3
    try clear hHeld
    cases bt with
    | false =>
      have HCE := Aside0.mk (freeE_three (fun h => by have h1 := (HFI.out.1 h).2; have h2 := HBT.out; simp [h1] at h2))
      go_wp2_with fail
      go_ret
      exact ⟨by rw [HCE.out]; rfl, _, T, H0.out.below HB5.out, by rw [HCE.out]; rfl, Turn.of_below HB5.out _, NB.self _ _⟩
    | true =>
      have hat : a ∈ T := of_decide_eq_true HBT.out.symm
      have HCE : Aside0 (freeE M L a l = 0) := ⟨HFI.out.2 ⟨HLS.out, hat⟩⟩
      have hTp : 0 < T.length := List.length_pos_of_mem hat
      have HTP := Aside0.mk hTp
      clear hat hTp
      go_wp2_with fail
      generalize w5.drew = w6 at *
      generalize wrap64 a = ua
      go_loopg [6, 7] T.length (fun gg v6 v7 wr => ∃ (i : Nat) (X : List Int), v7 = .int .i64 (i : Int) ∧ gg = T.length - i ∧ i ≤ T.length ∧ Aside0 (X = (T.take i).filter (fun k => decide (k ≠ a))) ∧ Aside0 (IRow wr w6.heap.size v6 X) ∧ Aside0 (Below w6.heap.size w6 wr))
      case atStart => exact ⟨0, [], rfl, rfl, Nat.zero_le _, ⟨by simp⟩, ⟨IRow.nil _ _⟩, ⟨Below.refl _ _⟩⟩
      case round =>
        obtain ⟨i, X, rfl, hg, hi2, HXX, HX, HBB⟩ := hrel
        have HGG := Aside0.mk hg
        have HXL : Aside0 (X.length ≤ 4294967296) := ⟨by rw [HXX.out]; exact Nat.le_trans (List.length_filter_le _ _) (by rw [List.length_take]; have := HTL.out; omega)⟩
        obtain ⟨s6, c6, hv6⟩ := HX.out.sl
        subst hv6
        have HBW := Aside0.mk (below_step HB5.out HBB.out)
        have HS := Aside0.mk (H0.out.below HBW.out)
        have HP := Aside0.mk (blk_below HP5.out HBB.out)
        have kc6 := blk_cell (HW.out _ _ HS.out) 6
        clear hg
        by_cases hlt : i < T.length
        · have hii : (i : Int) < (T.length : Int) := by omega
          obtain ⟨g, cc, e, k0⟩ := HS.out.rt.at_ hlt
          injection e with e1 e2 e3
          subst e1
          clear e2 e3
          obtain ⟨t, ht⟩ : ∃ t, t = T[i] := ⟨_, rfl⟩
          rw [← ht] at k0
          have HTK : Aside0 (T.take (i + 1) = T.take i ++ [t]) := ⟨by rw [ht, List.take_add_one, List.getElem?_eq_getElem hlt]; rfl⟩
          have hwi : IntKind.i64.wrap ((i : Int) + 1) = ((i + 1 : Nat) : Int) := by have := HTL.out; rw [wrap64_id (by omega) (by omega)]; omega
          have HWI := Aside0.mk hwi
          have HLT := Aside0.mk hlt
          have hwa2 := HWA.out
          clear ht hwi hi2
          by_cases hta : t = a
          · have hne : (t != a) = false := by simp [hta]
            have HNX : Aside0 (X = (T.take (i + 1)).filter (fun k => decide (k ≠ a))) := ⟨by rw [HTK.out, List.filter_append, ← HXX.out]; simp [hta]⟩
            clear hta
            go_upto_region 8 with fail
            obtain ⟨w7, rfl⟩ : ∃ w7, w7 = wr := ⟨_, rfl⟩
            have q0 : w7.drew.cell? ⟨b, 6, none⟩ = some (.slice (some ⟨g, 0, none⟩) T.length c') := kc6
            have q1 : w7.drew.cell? ⟨g, i, none⟩ = some (.int .i64 t) := k0
            have q2 : w7.drew.cell? ⟨w.heap.size, 0, none⟩ = some (.int .u32 a) := blk_cell HP.out 0
            refine start_ (n := 11) (S := fun w' => w'.cell? ⟨b, 6, none⟩ = some (.slice (some ⟨g, 0, none⟩) T.length c') ∧ w'.cell? ⟨g, i, none⟩ = some (.int .i64 t) ∧ w'.cell? ⟨w.heap.size, 0, none⟩ = some (.int .u32 a)) (ds := []) #[false, false, false, false, false, false, false, false, false, false, false] (by kernel_rfl) rfl rfl ⟨q0, q1, q2⟩ (fun hHeld => ?_)
            refine pure_ (i := 0) (N := some 36) (v := ?_) (a' := ?_) #[true, false, false, false, false, false, false, false, false, false, false] rfl rfl (by kernel_rfl) (fun _ _ _ h => h) (Or.inl ⟨by rfl, ?_⟩) ?_ ?_
            rotate_left
            · intro w'
              go_simp
              with_reducible rfl
            rotate_left
            · simp only [Act.put, List.setIfInBounds_toArray, List.set_cons_zero, List.set_cons_succ, i64_w, i32_w]
              rfl
            refine pure_ (i := 1) (N := some 37) (v := ?_) (a' := ?_) #[true, true, false, false, false, false, false, false, false, false, false] rfl rfl (by kernel_rfl) (fun _ _ _ h => h) (Or.inl ⟨by rfl, ?_⟩) ?_ ?_
            rotate_left
            · intro w'
              go_simp
              with_reducible rfl
            rotate_left
            · simp only [Act.put, List.setIfInBounds_toArray, List.set_cons_zero, List.set_cons_succ, i64_w, i32_w]
              rfl
            refine pure_ (i := 2) (N := some 38) (v := ?_) (a' := ?_) #[true, true, true, false, false, false, false, false, false, false, false] rfl rfl (by kernel_rfl) (fun _ _ _ h => h) (Or.inl ⟨by rfl, ?_⟩) ?_ ?_
            rotate_left
            · intro w'
              go_simp
              with_reducible rfl
            rotate_left
            · simp only [Act.put, List.setIfInBounds_toArray, List.set_cons_zero, List.set_cons_succ, i64_w, i32_w]
              rfl
            refine pure_ (i := 4) (N := some 40) (v := ?_) (a' := ?_) #[true, true, true, false, true, false, false, false, false, false, false] rfl rfl (by kernel_rfl) (fun _ _ _ h => h) (Or.inl ⟨by rfl, ?_⟩) ?_ ?_
            rotate_left
            · intro w'
              go_simp
              with_reducible rfl
            rotate_left
            · simp only [Act.put, List.setIfInBounds_toArray, List.set_cons_zero, List.set_cons_succ, i64_w, i32_w]
              rfl
            refine pure_ (i := 7) (N := some 43) (v := ?_) (a' := ?_) #[true, true, true, false, true, false, false, true, false, false, false] rfl rfl (by kernel_rfl) (fun _ _ _ h => h) (Or.inl ⟨by rfl, ?_⟩) ?_ ?_
            rotate_left
            · intro w'
              go_simp
              with_reducible rfl
            rotate_left
            · simp only [Act.put, List.setIfInBounds_toArray, List.set_cons_zero, List.set_cons_succ, i64_w, i32_w]
              rfl
            refine take_ (i := 3) (N := some 39) (v := ?_) (a' := ?_) #[true, true, true, true, true, false, false, true, false, false, false] rfl rfl (by kernel_rfl) (fun _ _ _ h => h) (Or.inl ⟨by rfl, ?_⟩) hHeld ?_ ?_
            rotate_left
            · rintro w' ⟨s0, s1, s2⟩
              go_simp
              with_reducible rfl
            rotate_left
            · simp only [Act.put, List.setIfInBounds_toArray, List.set_cons_zero, List.set_cons_succ, i64_w, i32_w]
              rfl
            refine pure_ (i := 5) (N := some 41) (v := ?_) (a' := ?_) #[true, true, true, true, true, true, false, true, false, false, false] rfl rfl (by kernel_rfl) (fun _ _ _ h => h) (Or.inl ⟨by rfl, ?_⟩) ?_ ?_
            rotate_left
            · intro w'
              go_simp
              with_reducible rfl
            rotate_left
            · simp only [Act.put, List.setIfInBounds_toArray, List.set_cons_zero, List.set_cons_succ, i64_w, i32_w]
              rfl
            refine take_ (i := 6) (N := some 42) (v := ?_) (a' := ?_) #[true, true, true, true, true, true, true, true, false, false, false] rfl rfl (by kernel_rfl) (fun _ _ _ h => h) (Or.inl ⟨by rfl, ?_⟩) hHeld ?_ ?_
            rotate_left
            · rintro w' ⟨s0, s1, s2⟩
              go_simp
              with_reducible rfl
            rotate_left
            · simp only [Act.put, List.setIfInBounds_toArray, List.set_cons_zero, List.set_cons_succ, i64_w, i32_w]
              rfl
            refine take_ (i := 8) (N := some 44) (v := ?_) (a' := ?_) #[true, true, true, true, true, true, true, true, true, false, false] rfl rfl (by kernel_rfl) (fun _ _ _ h => h) (Or.inl ⟨by rfl, ?_⟩) hHeld ?_ ?_
            rotate_left
            · rintro w' ⟨s0, s1, s2⟩
              go_simp
              with_reducible rfl
            rotate_left
            · simp only [Act.put, List.setIfInBounds_toArray, List.set_cons_zero, List.set_cons_succ, i64_w, i32_w]
              rfl
            refine pure_ (i := 9) (N := some 45) (v := ?_) (a' := ?_) #[true, true, true, true, true, true, true, true, true, true, false] rfl rfl (by kernel_rfl) (fun _ _ _ h => h) (Or.inl ⟨by rfl, ?_⟩) ?_ ?_
            rotate_left
            · intro w'
              go_simp
              with_reducible rfl
            rotate_left
            · simp only [Act.put, List.setIfInBounds_toArray, List.set_cons_zero, List.set_cons_succ, i64_w, i32_w]
              rfl
            refine pure_ (i := 10) (N := some 46) (v := ?_) (a' := ?_) #[true, true, true, true, true, true, true, true, true, true, true] rfl rfl (by kernel_rfl) (fun _ _ _ h => h) (Or.inl ⟨by rfl, ?_⟩) ?_ ?_
            rotate_left
            · intro w'
              go_simp
              with_reducible rfl
            rotate_left
            · simp only [Act.put, List.setIfInBounds_toArray, List.set_cons_zero, List.set_cons_succ, i64_w, i32_w]
              rfl
            refine done_ (by kernel_rfl) ?_

            try clear hHeld
            have hwi := HWI.out
            clear q0 q1 q2 kc6 k0
            go_wp2_with fail
            go_roundg (T.length - (i + 1))
            case measure => have := HGG.out; have := HLT.out; omega
            case rel => exact ⟨i + 1, X, rfl, rfl, by have := HLT.out; omega, HNX, ⟨HX.out.step (fun k _ => rfl)⟩, ⟨HBB.out.drew⟩⟩
          · have hne : (t != a) = true := by simp [hta]
            have HNX : Aside0 (X ++ [t] = (T.take (i + 1)).filter (fun k => decide (k ≠ a))) := ⟨by rw [HTK.out, List.filter_append, ← HXX.out]; simp [hta]⟩
            clear hta
            go_upto_region 8 with fail
            obtain ⟨w7, rfl⟩ : ∃ w7, w7 = wr := ⟨_, rfl⟩
            have q0 : w7.drew.cell? ⟨b, 6, none⟩ = some (.slice (some ⟨g, 0, none⟩) T.length c') := kc6
            have q1 : w7.drew.cell? ⟨g, i, none⟩ = some (.int .i64 t) := k0
            have q2 : w7.drew.cell? ⟨w.heap.size, 0, none⟩ = some (.int .u32 a) := blk_cell HP.out 0
            refine start_ (n := 11) (S := fun w' => w'.cell? ⟨b, 6, none⟩ = some (.slice (some ⟨g, 0, none⟩) T.length c') ∧ w'.cell? ⟨g, i, none⟩ = some (.int .i64 t) ∧ w'.cell? ⟨w.heap.size, 0, none⟩ = some (.int .u32 a)) (ds := []) #[false, false, false, false, false, false, false, false, false, false, false] (by kernel_rfl) rfl rfl ⟨q0, q1, q2⟩ (fun hHeld => ?_)
            refine pure_ (i := 0) (N := some 36) (v := ?_) (a' := ?_) #[true, false, false, false, false, false, false, false, false, false, false] rfl rfl (by kernel_rfl) (fun _ _ _ h => h) (Or.inl ⟨by rfl, ?_⟩) ?_ ?_
            rotate_left
            · intro w'
              go_simp
              with_reducible rfl
            rotate_left
            · simp only [Act.put, List.setIfInBounds_toArray, List.set_cons_zero, List.set_cons_succ, i64_w, i32_w]
              rfl
            refine pure_ (i := 1) (N := some 37) (v := ?_) (a' := ?_) #[true, true, false, false, false, false, false, false, false, false, false] rfl rfl (by kernel_rfl) (fun _ _ _ h => h) (Or.inl ⟨by rfl, ?_⟩) ?_ ?_
            rotate_left
            · intro w'
              go_simp
              with_reducible rfl
            rotate_left
            · simp only [Act.put, List.setIfInBounds_toArray, List.set_cons_zero, List.set_cons_succ, i64_w, i32_w]
              rfl
            refine pure_ (i := 2) (N := some 38) (v := ?_) (a' := ?_) #[true, true, true, false, false, false, false, false, false, false, false] rfl rfl (by kernel_rfl) (fun _ _ _ h => h) (Or.inl ⟨by rfl, ?_⟩) ?_ ?_
            rotate_left
            · intro w'
              go_simp
              with_reducible rfl
            rotate_left
            · simp only [Act.put, List.setIfInBounds_toArray, List.set_cons_zero, List.set_cons_succ, i64_w, i32_w]
              rfl
            refine pure_ (i := 4) (N := some 40) (v := ?_) (a' := ?_) #[true, true, true, false, true, false, false, false, false, false, false] rfl rfl (by kernel_rfl) (fun _ _ _ h => h) (Or.inl ⟨by rfl, ?_⟩) ?_ ?_
            rotate_left
            · intro w'
              go_simp
              with_reducible rfl
            rotate_left
            · simp only [Act.put, List.setIfInBounds_toArray, List.set_cons_zero, List.set_cons_succ, i64_w, i32_w]
              rfl
            refine pure_ (i := 7) (N := some 43) (v := ?_) (a' := ?_) #[true, true, true, false, true, false, false, true, false, false, false] rfl rfl (by kernel_rfl) (fun _ _ _ h => h) (Or.inl ⟨by rfl, ?_⟩) ?_ ?_
            rotate_left
            · intro w'
              go_simp
              with_reducible rfl
            rotate_left
            · simp only [Act.put, List.setIfInBounds_toArray, List.set_cons_zero, List.set_cons_succ, i64_w, i32_w]
              rfl
            refine take_ (i := 3) (N := some 39) (v := ?_) (a' := ?_) #[true, true, true, true, true, false, false, true, false, false, false] rfl rfl (by kernel_rfl) (fun _ _ _ h => h) (Or.inl ⟨by rfl, ?_⟩) hHeld ?_ ?_
            rotate_left
            · rintro w' ⟨s0, s1, s2⟩
              go_simp
              with_reducible rfl
            rotate_left
            · simp only [Act.put, List.setIfInBounds_toArray, List.set_cons_zero, List.set_cons_succ, i64_w, i32_w]
              rfl
            refine pure_ (i := 5) (N := some 41) (v := ?_) (a' := ?_) #[true, true, true, true, true, true, false, true, false, false, false] rfl rfl (by kernel_rfl) (fun _ _ _ h => h) (Or.inl ⟨by rfl, ?_⟩) ?_ ?_
            rotate_left
            · intro w'
              go_simp
              with_reducible rfl
            rotate_left
            · simp only [Act.put, List.setIfInBounds_toArray, List.set_cons_zero, List.set_cons_succ, i64_w, i32_w]
              rfl
            refine take_ (i := 6) (N := some 42) (v := ?_) (a' := ?_) #[true, true, true, true, true, true, true, true, false, false, false] rfl rfl (by kernel_rfl) (fun _ _ _ h => h) (Or.inl ⟨by rfl, ?_⟩) hHeld ?_ ?_
            rotate_left
            · rintro w' ⟨s0, s1, s2⟩
              go_simp
              with_reducible rfl
            rotate_left
            · simp only [Act.put, List.setIfInBounds_toArray, List.set_cons_zero, List.set_cons_succ, i64_w, i32_w]
              rfl
            refine take_ (i := 8) (N := some 44) (v := ?_) (a' := ?_) #[true, true, true, true, true, true, true, true, true, false, false] rfl rfl (by kernel_rfl) (fun _ _ _ h => h) (Or.inl ⟨by rfl, ?_⟩) hHeld ?_ ?_
            rotate_left
            · rintro w' ⟨s0, s1, s2⟩
              go_simp
              with_reducible rfl
            rotate_left
            · simp only [Act.put, List.setIfInBounds_toArray, List.set_cons_zero, List.set_cons_succ, i64_w, i32_w]
              rfl
            refine pure_ (i := 9) (N := some 45) (v := ?_) (a' := ?_) #[true, true, true, true, true, true, true, true, true, true, false] rfl rfl (by kernel_rfl) (fun _ _ _ h => h) (Or.inl ⟨by rfl, ?_⟩) ?_ ?_
            rotate_left
            · intro w'
              go_simp
              with_reducible rfl
            rotate_left
            · simp only [Act.put, List.setIfInBounds_toArray, List.set_cons_zero, List.set_cons_succ, i64_w, i32_w]
              rfl
            refine pure_ (i := 10) (N := some 46) (v := ?_) (a' := ?_) #[true, true, true, true, true, true, true, true, true, true, true] rfl rfl (by kernel_rfl) (fun _ _ _ h => h) (Or.inl ⟨by rfl, ?_⟩) ?_ ?_
            rotate_left
            · intro w'
              go_simp
              with_reducible rfl
            rotate_left
            · simp only [Act.put, List.setIfInBounds_toArray, List.set_cons_zero, List.set_cons_succ, i64_w, i32_w]
              rfl
            refine done_ (by kernel_rfl) ?_

            try clear hHeld
            have hwi := HWI.out
            clear q2 kc6 k0
            obtain ⟨v7, w8, r7, o7, hb7, g7, l7⟩ := IRow.app1 (w := w7.drew) (HX.out.step (fun k _ => rfl)) HBB.out.size t (by have := HXL.out; omega)
            have R7 := Aside0.mk r7
            have O7 := Aside0.mk o7
            have HB7 := Aside0.mk (HBB.out.drew.trans hb7)
            clear r7 o7 hb7 g7 l7
            go_wp2_with ((with_reducible refine gate_builtin (b := .append) (xs := #[.tmp 47, .tmp 55]) rfl ?_); at_builtin; refine wpList_append_run rfl (.tmp 47) (.tmp 55) 72 rfl rfl rfl R7.out ?_)
            go_roundg (T.length - (i + 1))
            case measure => have := HGG.out; have := HLT.out; omega
            case rel => exact ⟨i + 1, X ++ [t], rfl, rfl, by have := HLT.out; omega, HNX, O7, HB7⟩
        · have hii : ¬ (i : Int) < (T.length : Int) := by omega
          have hit : i = T.length := by omega
          have HXT : Aside0 (X = T.filter (fun k => decide (k ≠ a))) := ⟨by rw [HXX.out, hit, List.take_length]⟩
          have L7 : Aside0 (NB (.slice A' T.length c') (.slice s6 X.length c6) w6) := ⟨fun k hk => .inr (HX.out.lt k hk).1⟩
          have HPUT := Aside0.mk (HS5.out.put HX.out.low ⟨HBB.out.os, HBB.out.tape, HBB.out.output, HBB.out.size, fun k hk _ => HBB.out.block k hk⟩ L7.out)
          have y3 := blk_frozen (HW.out _ _ HS.out) 6
          clear hit hi2 hlt
          go_wp2_with fail
          go_ret
          exact ⟨by rw [HCE.out]; rfl, _, X, HPUT.out.1, by rw [HCE.out, HXT.out]; rfl, (Turn.of_below HB5.out _).trans HPUT.out.2 (fun k hk => .inl hk), L7.out.less HB5.out.size⟩
  · have hne : (l != M.s) = true := by simp [hls]
    have HCE := Aside0.mk (freeE_three (fun h => hls (HFI.out.1 h).1))
    clear hls
    go_upto_region 2 with fail
    obtain ⟨w5, rfl⟩ : ∃ w5, w5 = w3 := ⟨_, rfl⟩
    have HS5 : Aside0 (RS w5.drew b (.slice A K.length c) (.slice A' T.length c') M K T) := ⟨HS3.out.step (fun k _ => rfl)⟩
    have HP5 : Aside0 (w5.drew.heap[w.heap.size]? = _) := HP3
    have HB5 : Aside0 (Below w.heap.size w w5.drew) := ⟨HB3.out.drew⟩
    have q0 : w5.drew.cell? ⟨w.heap.size, 1, none⟩ = some (.int .i64 l) := blk_cell HP5.out 1
    have q1 : w5.drew.cell? ⟨b, 2, none⟩ = some (.int .i64 M.s) := blk_cell (HW.out _ _ HS5.out) 2
    refine start_ (n := 11) (S := fun w' => w'.cell? ⟨w.heap.size, 1, none⟩ = some (.int .i64 l) ∧ w'.cell? ⟨b, 2, none⟩ = some (.int .i64 M.s)) (ds := []) #[false, false, false, false, false, false, false, false, false, false, false] (by kernel_rfl) rfl rfl ⟨q0, q1⟩ (fun hHeld => ?_)
    refine pure_ (i := 0) (N := some 16) (v := ?_) (a' := ?_) #[true, false, false, false, false, false, false, false, false, false, false] rfl rfl (by kernel_rfl) (fun _ _ _ h => h) (Or.inl ⟨by rfl, ?_⟩) ?_ ?_
    rotate_left
    · intro w'
      go_simp
      with_reducible rfl
    rotate_left
    · simp only [Act.put, List.setIfInBounds_toArray, List.set_cons_zero, List.set_cons_succ, i64_w, i32_w]
      rfl
    refine pure_ (i := 2) (N := some 18) (v := ?_) (a' := ?_) #[true, false, true, false, false, false, false, false, false, false, false] rfl rfl (by kernel_rfl) (fun _ _ _ h => h) (Or.inl ⟨by rfl, ?_⟩) ?_ ?_
    rotate_left
    · intro w'
      go_simp
      with_reducible rfl
    rotate_left
    · simp only [Act.put, List.setIfInBounds_toArray, List.set_cons_zero, List.set_cons_succ, i64_w, i32_w]
      rfl
    refine pure_ (i := 3) (N := some 19) (v := ?_) (a' := ?_) #[true, false, true, true, false, false, false, false, false, false, false] rfl rfl (by kernel_rfl) (fun _ _ _ h => h) (Or.inl ⟨by rfl, ?_⟩) ?_ ?_
    rotate_left
    · intro w'
      go_simp
      with_reducible rfl
    rotate_left
    · simp only [Act.put, List.setIfInBounds_toArray, List.set_cons_zero, List.set_cons_succ, i64_w, i32_w]
      rfl
    refine pure_ (i := 4) (N := some 20) (v := ?_) (a' := ?_) #[true, false, true, true, true, false, false, false, false, false, false] rfl rfl (by kernel_rfl) (fun _ _ _ h => h) (Or.inl ⟨by rfl, ?_⟩) ?_ ?_
    rotate_left
    · intro w'
      go_simp
      with_reducible rfl
    rotate_left
    · simp only [Act.put, List.setIfInBounds_toArray, List.set_cons_zero, List.set_cons_succ, i64_w, i32_w]
      rfl
    refine take_ (i := 1) (N := some 17) (v := ?_) (a' := ?_) #[true, true, true, true, true, false, false, false, false, false, false] rfl rfl (by kernel_rfl) (fun _ _ _ h => h) (Or.inl ⟨by rfl, ?_⟩) hHeld ?_ ?_
    rotate_left
    · rintro w' ⟨s0, s1⟩
      go_simp
      with_reducible rfl
    rotate_left
    · simp only [Act.put, List.setIfInBounds_toArray, List.set_cons_zero, List.set_cons_succ, i64_w, i32_w]
      rfl
    refine take_ (i := 5) (N := some 21) (v := ?_) (a' := ?_) #[true, true, true, true, true, true, false, false, false, false, false] rfl rfl (by kernel_rfl) (fun _ _ _ h => h) (Or.inl ⟨by rfl, ?_⟩) hHeld ?_ ?_
    rotate_left
    · rintro w' ⟨s0, s1⟩
      go_simp
      with_reducible rfl
    rotate_left
    · simp only [Act.put, List.setIfInBounds_toArray, List.set_cons_zero, List.set_cons_succ, i64_w, i32_w]
      rfl
    refine pure_ (i := 6) (N := some 22) (v := ?_) (a' := ?_) #[true, true, true, true, true, true, true, false, false, false, false] rfl rfl (by kernel_rfl) (fun _ _ _ h => h) (Or.inl ⟨by rfl, ?_⟩) ?_ ?_
    rotate_left
    · intro w'
      go_simp
      with_reducible rfl
    rotate_left
    · simp only [Act.put, List.setIfInBounds_toArray, List.set_cons_zero, List.set_cons_succ, i64_w, i32_w]
      rfl
    refine pure_ (i := 7) (N := some 23) (v := ?_) (a' := ?_) #[true, true, true, true, true, true, true, true, false, false, false] rfl rfl (by kernel_rfl) (fun _ _ _ h => h) (Or.inl ⟨by rfl, ?_⟩) ?_ ?_
    rotate_left
    · intro w'
      go_simp
      with_reducible rfl
    rotate_left
    · simp only [Act.put, List.setIfInBounds_toArray, List.set_cons_zero, List.set_cons_succ, i64_w, i32_w]
      rfl
    refine pure_ (i := 8) (N := some 24) (v := undef) (a' := ?_) #[true, true, true, true, true, true, true, true, true, false, false] rfl rfl (by kernel_rfl) (fun _ _ _ h => h) (Or.inr ⟨by rfl, rfl⟩) ?_ ?_
    rotate_left
    · simp only [Act.put, List.setIfInBounds_toArray, List.set_cons_zero, List.set_cons_succ, i64_w, i32_w]
      rfl
    refine pure_ (i := 9) (N := some 25) (v := undef) (a' := ?_) #[true, true, true, true, true, true, true, true, true, true, false] rfl rfl (by kernel_rfl) (fun _ _ _ h => h) (Or.inr ⟨by rfl, rfl⟩) ?_ ?_
    rotate_left
    · simp only [Act.put, List.setIfInBounds_toArray, List.set_cons_zero, List.set_cons_succ, i64_w, i32_w]
      rfl
    refine pure_ (i := 10) (N := some 26) (v := ?_) (a' := ?_) #[true, true, true, true, true, true, true, true, true, true, true] rfl rfl (by kernel_rfl) (fun _ _ _ h => h) (Or.inl ⟨by rfl, ?_⟩) ?_ ?_
    rotate_left
    · intro w'
      go_simp
      with_reducible rfl
    rotate_left
    · simp only [Act.put, List.setIfInBounds_toArray, List.set_cons_zero, List.set_cons_succ, i64_w, i32_w]
      rfl
    refine done_ (by kernel_rfl) ?_

    clear q0 q1 hne HS3 HP3 HB3
    try clear hHeld
    go_wp2_with fail
    go_ret
    exact ⟨by rw [HCE.out]; rfl, _, T, H0.out.below HB5.out, by rw [HCE.out]; rfl, Turn.of_below HB5.out _, NB.self _ _⟩
end Go.Proofs.Ytebnlhjakiipjaa.Pl
