/- Claim walked: a subnet that may be had. Conditions: what a pool's numbers are good for. append of runs to a row of the call's own, whatever the source. Conditions: the reach. Free walked. Conditions: what a pool's numbers are good for. -/
import Derived.Test.YtebnlhjakiipjaaPaB
import Derived.Deep.Upon
set_option linter.unusedVariables false
set_option linter.unusedSimpArgs false
namespace Go.Proofs.Ytebnlhjakiipjaa.Pl
open Go.RowKit Go.Maps Go.WideMaps Go.MapKept Go.Proofs.YtebnlhjakiipjaaW.PrintWords Go.Proofs.YtebnlhjakiipjaaW.PrintMore Go.Proofs.YtebnlhjakiipjaaW.PrintLast Go.Proofs.Ytebnlhjakiipjaa.PPlf
/-- the numbers taken are subnets' -/
def Rng (M : Pm) (R : List Run) : Prop := ∀ x, InR R x → 0 ≤ x ∧ x * sizeF M.s < 4294967296
theorem wf_len : ∀ {R : List Run} {lo hi : Int}, Wf R → (∀ r, r ∈ R → lo ≤ r.1 ∧ r.2 < hi) → lo ≤ hi → (R.length : Int) ≤ hi - lo
  | [], lo, hi, hw, h, hl => by simp; omega
  | r :: R, lo, hi, hw, h, hl => by
    obtain ⟨h1, h2, h3⟩ := Wf.cons.1 hw
    have hr := h r List.mem_cons_self
    have := wf_len (R := R) (lo := r.2 + 1) (hi := hi) h2 (fun s hs => ⟨by have := h3 s hs; omega, (h s (List.mem_cons_of_mem _ hs)).2⟩) (by omega)
    rw [List.length_cons]
    push_cast
    omega
theorem Rng.len {M : Pm} {R : List Run} (h : Rng M R) (hok : M.Ok) (hw : Wf R) : R.length ≤ 4294967296 := by
  have hs := (sizeF_rng hok.s0 hok.s1).1
  have hx : ∀ x, InR R x → 0 ≤ x ∧ x < 4294967296 := fun x hx => ⟨(h x hx).1, fits_sub hok.s0 hok.s1 (h x hx).1 (h x hx).2⟩
  have := wf_len (lo := 0) (hi := 4294967296) hw (fun r hr => ⟨(hx r.1 ⟨r, hr, Int.le_refl _, hw.1 r hr⟩).1, (hx r.2 ⟨r, hr, hw.1 r hr, Int.le_refl _⟩).2⟩) (by omega)
  omega
/-- a row's block is the old one's, or new -/
def NB (vr vr' : Value) (w : World) : Prop := ∀ k, vr'.ownBlock = some k → vr.ownBlock = some k ∨ w.heap.size ≤ k
theorem NB.of {vr vr' : Value} {w : World} (h : vr'.ownBlock = vr.ownBlock ∨ ∃ k, vr'.ownBlock = some k ∧ w.heap.size ≤ k) : NB vr vr' w := fun k hk => by
  rcases h with h | ⟨j, hj, h⟩
  · exact .inl (h ▸ hk)
  · rw [hj] at hk; injection hk with hk; exact .inr (by omega)
/-- the runs with one number more -/
def One (w : World) (b : Nat) (vk : Value) (bm : Nat) (vr : Value) (M : Pm) (R : List Run) (n : Int) (w' : World) : Prop :=
  ∃ vr' R', PlS w' b vk bm vr' M R' ∧ (∀ x, InR R' x ↔ InR R x ∨ x = n) ∧ Turn w w' (b :: vr.ownBlock.toList) ∧ NB vr vr' w
def InPost (w : World) (b : Nat) (vk : Value) (bm : Nat) (vr : Value) (M : Pm) (R : List Run) (n : Int) (e : Ending) (w' : World) : Prop :=
  (InR R n ∧ e = .returned (.int .i64 102) ∧ Below w.heap.size w w') ∨ (¬ InR R n ∧ e = .returned (.int .i64 0) ∧ One w b vk bm vr M R n w')
theorem lay_one (w : World) (b : Nat) (vk : Value) (bm : Nat) (vr : Value) (M : Pm) (R : List Run) (n : Int) (hok : M.Ok) (hR : Rng M R) (hS : PlS w b vk bm vr M R) (h0 : 0 ≤ n) (h1 : n < 4294967296) (hfree : ¬ InR R n) :
    Calls Try.prog 38 #[.pointer (some ⟨b, 0, none⟩), .int .i64 n] w fun e w' => e = .returned (.tuple #[]) ∧ One w b vk bm vr M R n w' := by
  have hl := hR.len hok hS.wf
  refine (lay38 w b vk bm vr M R n hS h0 (by omega) hfree (by omega)).mono ?_
  rintro e w' ⟨rfl, vr', i, hat, hP, hT, ho⟩
  exact ⟨rfl, vr', _, hP, (layF_ok hat hfree).2, hT, NB.of ho⟩
theorem One.after {w w1 w' : World} {b : Nat} {vk : Value} {bm : Nat} {vr : Value} {M : Pm} {R : List Run} {n : Int} (hb : Below w.heap.size w w1) (h : One w1 b vk bm vr M R n w') : One w b vk bm vr M R n w' := by
  obtain ⟨vr', R', h1, h2, h3, h4⟩ := h
  exact ⟨vr', R', h1, h2, (Turn.of_below hb _).trans h3 (fun k hk => .inl hk), fun k hk => (h4 k hk).imp id (fun h => Nat.le_trans hb.size h)⟩
set_option maxHeartbeats 16000000 in
set_option maxRecDepth 100000 in
theorem claim_in (w : World) (b : Nat) (vk : Value) (bm : Nat) (vr : Value) (M : Pm) (R : List Run) (a l : Int) (hok : M.Ok) (hK : M.Kept) (hR : Rng M R) (hS : PlS w b vk bm vr M R) (ha0 : 0 ≤ a) (ha1 : a < 4294967296) (hn : sub M a l) (hi : ins M.na M.nl a) (ho : ¬ away M (a / sizeF M.s)) :
    Calls Try.prog 15 #[.pointer (some ⟨b, 0, none⟩), .agg #[.int .u32 a, .int .i64 l]] w fun e w' => InPost w b vk bm vr M R (a / sizeF M.s) e w' := by
  have hB1 := below_alloc (Below.refl w.heap.size w) (.cells #[.int .u32 a, .int .i64 l] 27)
  have kb := heap_alloc_new w (.cells #[.int .u32 a, .int .i64 l] 27)
  have hSC := SC.mk_ (w0 := w) (hS.below hB1) (blk_cell kb 0) (blk_cell kb 1) (by rw [World.size_alloc]; omega) hB1
  have HSC := Aside0.mk hSC
  have hV := Aside0.mk (fun w => addr_Valid.calls 1 a l _ w (valid_all ha0 ha1 (Nat.le_refl 1)))
  have hC := Aside0.mk (fun w => addr_Contains.calls 1 M.na M.nl a _ w (contains_all hok.na0 hok.na1 ha0 ha1 (Nat.le_refl 1)))
  have hN := Aside0.mk (fun w hb => number28 w b M.s a hb hok.s0 hok.s1 ha0 ha1)
  obtain ⟨hl, hv⟩ := hn
  have hlb : (l != M.s) = false := by simp [hl]
  rw [decide_eq_true hv] at hV
  rw [decide_eq_true hi] at hC
  have hr := div_rng hok.s0 hok.s1 ha0 ha1
  obtain ⟨n, hnn⟩ : ∃ n, n = a / sizeF M.s := ⟨_, rfl⟩
  rw [← hnn] at hr ho hN ⊢
  have HA := Aside0.mk (fun w h => at37 w b vk bm vr M R n h)
  have HL := Aside0.mk (fun w h h2 => lay_one w b vk bm vr M R n hok hR h hr.1 hr.2 h2)
  obtain ⟨t, ht⟩ : ∃ t, (M.isK n).getD 0 = t := ⟨_, rfl⟩
  have hSLk := Aside0.mk (fun (w1 : World) (h : SC w b vk bm vr M R w.heap.size a l w1) => SL.mk_ h (wf64 hr.1 hr.2) ht)
  have HT : Aside0 (n ∈ M.kept → t = 1) := ⟨fun h => by rw [← ht, hK n, if_pos h]; rfl⟩
  have HO := Aside0.mk ho
  clear hSC kb hB1 hS hnn ho ht hl hv hK hok hi hR hr
  go_enter Try.func15, Try.ntmps15
  go_wp2_with fail
  go_region_held3 (SC w b vk bm vr M R w.heap.size a l)
      (first | assumption | (exact SC.keep hb4 (by assumption)) | (exact SC.drew (by assumption)) | (exact SC.drew HSC.out) | (exact HSC.out))
      ((go_at_call 29; refine (hV.out _).mono ?_; rintro e_ w4 ⟨rfl, hb4⟩))
  have hS1 := Aside0.mk (by assumption : SC w b vk bm vr M R w.heap.size a l w4)
  have k2 := hS1.out.2.2.1
  have kp := hS1.out.2.2.2.2.2.2.1
  go_wp2_with fail
  refine (hN.out _ k2).mono ?_
  rintro e_ w5 ⟨rfl, rfl⟩
  clear k2 kp hV hlb HSC hN
  by_cases hlo : n < M.mn
  · have ht0 := HT.out (Classical.byContradiction fun h => HO.out ⟨.inl hlo, h⟩)
    subst ht0
    go_wp2_with fail
    have hL4 := hSLk.out _ (SC.drew hS1.out)
    refine start_ (n := 33) (S := fun w' => w'.cell? ⟨b, 0, none⟩ = some (.int .u32 M.na) ∧ w'.cell? ⟨b, 1, none⟩ = some (.int .i64 M.nl) ∧ w'.cell? ⟨b, 2, none⟩ = some (.int .i64 M.s) ∧ w'.cell? ⟨b, 3, none⟩ = some (.int .i64 M.mn) ∧ w'.cell? ⟨b, 4, none⟩ = some (.int .i64 M.mx) ∧ w'.cell? ⟨b, 6, none⟩ = some (.map (some bm)) ∧ w'.cell? ⟨w.heap.size, 0, none⟩ = some (.int .u32 a) ∧ w'.cell? ⟨w.heap.size, 1, none⟩ = some (.int .i64 l) ∧ (Instr.lookup 62 (.map (some bm)) (.int .i64 n) false).run Try.prog w' = .ok (.int .i64 1) w' ∧ SC w b vk bm vr M R w.heap.size a l w') (ds := []) #[false, false, false, false, false, false, false, false, false, false, false, false, false, false, false, false, false, false, false, false, false, false, false, false, false, false, false, false, false, false, false, false, false] (by kernel_rfl) rfl rfl ⟨(hL4).1, (hL4).2.1, (hL4).2.2.1, (hL4).2.2.2.1, (hL4).2.2.2.2.1, (hL4).2.2.2.2.2.1, (hL4).2.2.2.2.2.2.1, (hL4).2.2.2.2.2.2.2.1, (hL4).2.2.2.2.2.2.2.2.1, (hL4).2.2.2.2.2.2.2.2.2⟩ (fun hHeld => ?_)
    refine pure_ (i := 0) (N := some 24) (v := ?_) (a' := ?_) #[true, false, false, false, false, false, false, false, false, false, false, false, false, false, false, false, false, false, false, false, false, false, false, false, false, false, false, false, false, false, false, false, false] rfl rfl (by kernel_rfl) (fun _ _ _ h => h) (Or.inl ⟨by rfl, ?_⟩) ?_ ?_
    rotate_left
    · intro w'
      go_simp
      with_reducible rfl
    rotate_left
    · simp only [Act.put, List.setIfInBounds_toArray, List.set_cons_zero, List.set_cons_succ, i64_w, i32_w]
      rfl
    refine pure_ (i := 1) (N := some 25) (v := ?_) (a' := ?_) #[true, true, false, false, false, false, false, false, false, false, false, false, false, false, false, false, false, false, false, false, false, false, false, false, false, false, false, false, false, false, false, false, false] rfl rfl (by kernel_rfl) (fun _ _ _ h => h) (Or.inl ⟨by rfl, ?_⟩) ?_ ?_
    rotate_left
    · intro w'
      go_simp
      with_reducible rfl
    rotate_left
    · simp only [Act.put, List.setIfInBounds_toArray, List.set_cons_zero, List.set_cons_succ, i64_w, i32_w]
      rfl
    refine pure_ (i := 2) (N := some 26) (v := ?_) (a' := ?_) #[true, true, true, false, false, false, false, false, false, false, false, false, false, false, false, false, false, false, false, false, false, false, false, false, false, false, false, false, false, false, false, false, false] rfl rfl (by kernel_rfl) (fun _ _ _ h => h) (Or.inl ⟨by rfl, ?_⟩) ?_ ?_
    rotate_left
    · intro w'
      go_simp
      with_reducible rfl
    rotate_left
    · simp only [Act.put, List.setIfInBounds_toArray, List.set_cons_zero, List.set_cons_succ, i64_w, i32_w]
      rfl
    refine pure_ (i := 4) (N := some 28) (v := ?_) (a' := ?_) #[true, true, true, false, true, false, false, false, false, false, false, false, false, false, false, false, false, false, false, false, false, false, false, false, false, false, false, false, false, false, false, false, false] rfl rfl (by kernel_rfl) (fun _ _ _ h => h) (Or.inl ⟨by rfl, ?_⟩) ?_ ?_
    rotate_left
    · intro w'
      go_simp
      with_reducible rfl
    rotate_left
    · simp only [Act.put, List.setIfInBounds_toArray, List.set_cons_zero, List.set_cons_succ, i64_w, i32_w]
      rfl
    refine take_ (i := 3) (N := some 27) (v := ?_) (a' := ?_) #[true, true, true, true, true, false, false, false, false, false, false, false, false, false, false, false, false, false, false, false, false, false, false, false, false, false, false, false, false, false, false, false, false] rfl rfl (by kernel_rfl) (fun _ _ _ h => h) (Or.inl ⟨by rfl, ?_⟩) hHeld ?_ ?_
    rotate_left
    · rintro w' ⟨s0, s1, s2, s3, s4, s5, s6, s7, s8, s9⟩
      go_simp
      with_reducible rfl
    rotate_left
    · simp only [Act.put, List.setIfInBounds_toArray, List.set_cons_zero, List.set_cons_succ, i64_w, i32_w]
      rfl
    refine take_ (i := 5) (N := some 29) (v := ?_) (a' := ?_) #[true, true, true, true, true, true, false, false, false, false, false, false, false, false, false, false, false, false, false, false, false, false, false, false, false, false, false, false, false, false, false, false, false] rfl rfl (by kernel_rfl) (fun _ _ _ h => h) (Or.inl ⟨by rfl, ?_⟩) hHeld ?_ ?_
    rotate_left
    · rintro w' ⟨s0, s1, s2, s3, s4, s5, s6, s7, s8, s9⟩
      go_simp
      with_reducible rfl
    rotate_left
    · simp only [Act.put, List.setIfInBounds_toArray, List.set_cons_zero, List.set_cons_succ, i64_w, i32_w]
      rfl
    refine one_ (i := 6) (N := some 30) #[true, true, true, true, true, true, true, false, false, false, false, false, false, false, false, false, false, false, false, false, false, false, false, false, false, false, false, false, false, false, false, false, false] rfl rfl (by kernel_rfl) (by decide) (fun K hK => ?_)
    refine goes_ Try.func30 (by kernel_rfl) rfl #[.agg #[.int .u32 M.na, .int .i64 M.nl], .int .u32 a] (by rfl) rfl rfl (by simp only [List.map_toArray, List.map_cons, List.map_nil]; rfl) ?_
    with_reducible refine (hC.out _).mono ?_
    rintro e_ w6 ⟨rfl, hb6⟩
    refine ⟨_, rfl, ?_⟩
    have hL6 := hSLk.out _ (SC.keep hb6 hL4.sc)
    refine hK.out _ _ ⟨(hL6).1, (hL6).2.1, (hL6).2.2.1, (hL6).2.2.2.1, (hL6).2.2.2.2.1, (hL6).2.2.2.2.2.1, (hL6).2.2.2.2.2.2.1, (hL6).2.2.2.2.2.2.2.1, (hL6).2.2.2.2.2.2.2.2.1, (hL6).2.2.2.2.2.2.2.2.2⟩ (fun hHeld => ?_)
    clear hK K
    refine norm_ (a' := ?_) ?_ ?_
    rotate_left
    · show Act.put _ (some 30) _ = _
      simp only [Act.put, List.setIfInBounds_toArray, List.set_cons_zero, List.set_cons_succ, i64_w, i32_w]
      rfl
    refine pure_ (i := 7) (N := some 31) (v := ?_) (a' := ?_) #[true, true, true, true, true, true, true, true, false, false, false, false, false, false, false, false, false, false, false, false, false, false, false, false, false, false, false, false, false, false, false, false, false] rfl rfl (by kernel_rfl) (fun _ _ _ h => h) (Or.inl ⟨by rfl, ?_⟩) ?_ ?_
    rotate_left
    · intro w'
      go_simp
      with_reducible rfl
    rotate_left
    · simp only [Act.put, List.setIfInBounds_toArray, List.set_cons_zero, List.set_cons_succ, i64_w, i32_w]
      rfl
    refine pure_ (i := 8) (N := some 32) (v := ?_) (a' := ?_) #[true, true, true, true, true, true, true, true, true, false, false, false, false, false, false, false, false, false, false, false, false, false, false, false, false, false, false, false, false, false, false, false, false] rfl rfl (by kernel_rfl) (fun _ _ _ h => h) (Or.inl ⟨by rfl, ?_⟩) ?_ ?_
    rotate_left
    · intro w'
      go_simp
      with_reducible rfl
    rotate_left
    · simp only [Act.put, List.setIfInBounds_toArray, List.set_cons_zero, List.set_cons_succ, i64_w, i32_w]
      rfl
    refine pure_ (i := 9) (N := some 33) (v := ?_) (a' := ?_) #[true, true, true, true, true, true, true, true, true, true, false, false, false, false, false, false, false, false, false, false, false, false, false, false, false, false, false, false, false, false, false, false, false] rfl rfl (by kernel_rfl) (fun _ _ _ h => h) (Or.inl ⟨by rfl, ?_⟩) ?_ ?_
    rotate_left
    · intro w'
      go_simp
      with_reducible rfl
    rotate_left
    · simp only [Act.put, List.setIfInBounds_toArray, List.set_cons_zero, List.set_cons_succ, i64_w, i32_w]
      rfl
    refine pure_ (i := 10) (N := some 34) (v := ?_) (a' := ?_) #[true, true, true, true, true, true, true, true, true, true, true, false, false, false, false, false, false, false, false, false, false, false, false, false, false, false, false, false, false, false, false, false, false] rfl rfl (by kernel_rfl) (fun _ _ _ h => h) (Or.inl ⟨by rfl, ?_⟩) ?_ ?_
    rotate_left
    · intro w'
      go_simp
      with_reducible rfl
    rotate_left
    · simp only [Act.put, List.setIfInBounds_toArray, List.set_cons_zero, List.set_cons_succ, i64_w, i32_w]
      rfl
    refine pure_ (i := 11) (N := some 35) (v := ?_) (a' := ?_) #[true, true, true, true, true, true, true, true, true, true, true, true, false, false, false, false, false, false, false, false, false, false, false, false, false, false, false, false, false, false, false, false, false] rfl rfl (by kernel_rfl) (fun _ _ _ h => h) (Or.inl ⟨by rfl, ?_⟩) ?_ ?_
    rotate_left
    · intro w'
      go_simp
      with_reducible rfl
    rotate_left
    · simp only [Act.put, List.setIfInBounds_toArray, List.set_cons_zero, List.set_cons_succ, i64_w, i32_w]
      rfl
    refine pure_ (i := 12) (N := some 36) (v := ?_) (a' := ?_) #[true, true, true, true, true, true, true, true, true, true, true, true, true, false, false, false, false, false, false, false, false, false, false, false, false, false, false, false, false, false, false, false, false] rfl rfl (by kernel_rfl) (fun _ _ _ h => h) (Or.inl ⟨by rfl, ?_⟩) ?_ ?_
    rotate_left
    · intro w'
      go_simp
      with_reducible rfl
    rotate_left
    · simp only [Act.put, List.setIfInBounds_toArray, List.set_cons_zero, List.set_cons_succ, i64_w, i32_w]
      rfl
    refine take_ (i := 13) (N := some 37) (v := ?_) (a' := ?_) #[true, true, true, true, true, true, true, true, true, true, true, true, true, true, false, false, false, false, false, false, false, false, false, false, false, false, false, false, false, false, false, false, false] rfl rfl (by kernel_rfl) (fun _ _ _ h => h) (Or.inl ⟨by rfl, ?_⟩) hHeld ?_ ?_
    rotate_left
    · rintro w' ⟨s0, s1, s2, s3, s4, s5, s6, s7, s8, s9⟩
      go_simp
      with_reducible rfl
    rotate_left
    · simp only [Act.put, List.setIfInBounds_toArray, List.set_cons_zero, List.set_cons_succ, i64_w, i32_w]
      rfl
    refine pure_ (i := 14) (N := some 38) (v := ?_) (a' := ?_) #[true, true, true, true, true, true, true, true, true, true, true, true, true, true, true, false, false, false, false, false, false, false, false, false, false, false, false, false, false, false, false, false, false] rfl rfl (by kernel_rfl) (fun _ _ _ h => h) (Or.inl ⟨by rfl, ?_⟩) ?_ ?_
    rotate_left
    · intro w'
      go_simp
      with_reducible rfl
    rotate_left
    · simp only [Act.put, List.setIfInBounds_toArray, List.set_cons_zero, List.set_cons_succ, i64_w, i32_w]
      rfl
    refine pure_ (i := 15) (N := some 39) (v := ?_) (a' := ?_) #[true, true, true, true, true, true, true, true, true, true, true, true, true, true, true, true, false, false, false, false, false, false, false, false, false, false, false, false, false, false, false, false, false] rfl rfl (by kernel_rfl) (fun _ _ _ h => h) (Or.inl ⟨by rfl, ?_⟩) ?_ ?_
    rotate_left
    · intro w'
      go_simp
      with_reducible rfl
    rotate_left
    · simp only [Act.put, List.setIfInBounds_toArray, List.set_cons_zero, List.set_cons_succ, i64_w, i32_w]
      rfl
    refine pure_ (i := 16) (N := some 40) (v := undef) (a' := ?_) #[true, true, true, true, true, true, true, true, true, true, true, true, true, true, true, true, true, false, false, false, false, false, false, false, false, false, false, false, false, false, false, false, false] rfl rfl (by kernel_rfl) (fun _ _ _ h => h) (Or.inr ⟨by rfl, rfl⟩) ?_ ?_
    rotate_left
    · simp only [Act.put, List.setIfInBounds_toArray, List.set_cons_zero, List.set_cons_succ, i64_w, i32_w]
      rfl
    refine pure_ (i := 17) (N := some 41) (v := undef) (a' := ?_) #[true, true, true, true, true, true, true, true, true, true, true, true, true, true, true, true, true, true, false, false, false, false, false, false, false, false, false, false, false, false, false, false, false] rfl rfl (by kernel_rfl) (fun _ _ _ h => h) (Or.inr ⟨by rfl, rfl⟩) ?_ ?_
    rotate_left
    · simp only [Act.put, List.setIfInBounds_toArray, List.set_cons_zero, List.set_cons_succ, i64_w, i32_w]
      rfl
    refine pure_ (i := 18) (N := some 42) (v := undef) (a' := ?_) #[true, true, true, true, true, true, true, true, true, true, true, true, true, true, true, true, true, true, true, false, false, false, false, false, false, false, false, false, false, false, false, false, false] rfl rfl (by kernel_rfl) (fun _ _ _ h => h) (Or.inr ⟨by rfl, rfl⟩) ?_ ?_
    rotate_left
    · simp only [Act.put, List.setIfInBounds_toArray, List.set_cons_zero, List.set_cons_succ, i64_w, i32_w]
      rfl
    refine pure_ (i := 19) (N := some 43) (v := undef) (a' := ?_) #[true, true, true, true, true, true, true, true, true, true, true, true, true, true, true, true, true, true, true, true, false, false, false, false, false, false, false, false, false, false, false, false, false] rfl rfl (by kernel_rfl) (fun _ _ _ h => h) (Or.inr ⟨by rfl, rfl⟩) ?_ ?_
    rotate_left
    · simp only [Act.put, List.setIfInBounds_toArray, List.set_cons_zero, List.set_cons_succ, i64_w, i32_w]
      rfl
    refine pure_ (i := 20) (N := some 44) (v := undef) (a' := ?_) #[true, true, true, true, true, true, true, true, true, true, true, true, true, true, true, true, true, true, true, true, true, false, false, false, false, false, false, false, false, false, false, false, false] rfl rfl (by kernel_rfl) (fun _ _ _ h => h) (Or.inr ⟨by rfl, rfl⟩) ?_ ?_
    rotate_left
    · simp only [Act.put, List.setIfInBounds_toArray, List.set_cons_zero, List.set_cons_succ, i64_w, i32_w]
      rfl
    refine pure_ (i := 21) (N := some 45) (v := undef) (a' := ?_) #[true, true, true, true, true, true, true, true, true, true, true, true, true, true, true, true, true, true, true, true, true, true, false, false, false, false, false, false, false, false, false, false, false] rfl rfl (by kernel_rfl) (fun _ _ _ h => h) (Or.inr ⟨by rfl, rfl⟩) ?_ ?_
    rotate_left
    · simp only [Act.put, List.setIfInBounds_toArray, List.set_cons_zero, List.set_cons_succ, i64_w, i32_w]
      rfl
    refine pure_ (i := 22) (N := some 46) (v := ?_) (a' := ?_) #[true, true, true, true, true, true, true, true, true, true, true, true, true, true, true, true, true, true, true, true, true, true, true, false, false, false, false, false, false, false, false, false, false] rfl rfl (by kernel_rfl) (fun _ _ _ h => h) (Or.inl ⟨by rfl, ?_⟩) ?_ ?_
    rotate_left
    · intro w'
      go_simp
      with_reducible rfl
    rotate_left
    · simp only [Act.put, List.setIfInBounds_toArray, List.set_cons_zero, List.set_cons_succ, i64_w, i32_w]
      rfl
    refine pure_ (i := 23) (N := some 47) (v := ?_) (a' := ?_) #[true, true, true, true, true, true, true, true, true, true, true, true, true, true, true, true, true, true, true, true, true, true, true, true, false, false, false, false, false, false, false, false, false] rfl rfl (by kernel_rfl) (fun _ _ _ h => h) (Or.inl ⟨by rfl, ?_⟩) ?_ ?_
    rotate_left
    · intro w'
      go_simp
      with_reducible rfl
    rotate_left
    · simp only [Act.put, List.setIfInBounds_toArray, List.set_cons_zero, List.set_cons_succ, i64_w, i32_w]
      rfl
    refine pure_ (i := 24) (N := some 48) (v := ?_) (a' := ?_) #[true, true, true, true, true, true, true, true, true, true, true, true, true, true, true, true, true, true, true, true, true, true, true, true, true, false, false, false, false, false, false, false, false] rfl rfl (by kernel_rfl) (fun _ _ _ h => h) (Or.inl ⟨by rfl, ?_⟩) ?_ ?_
    rotate_left
    · intro w'
      go_simp
      with_reducible rfl
    rotate_left
    · simp only [Act.put, List.setIfInBounds_toArray, List.set_cons_zero, List.set_cons_succ, i64_w, i32_w]
      rfl
    refine pure_ (i := 25) (N := some 49) (v := ?_) (a' := ?_) #[true, true, true, true, true, true, true, true, true, true, true, true, true, true, true, true, true, true, true, true, true, true, true, true, true, true, false, false, false, false, false, false, false] rfl rfl (by kernel_rfl) (fun _ _ _ h => h) (Or.inl ⟨by rfl, ?_⟩) ?_ ?_
    rotate_left
    · intro w'
      go_simp
      with_reducible rfl
    rotate_left
    · simp only [Act.put, List.setIfInBounds_toArray, List.set_cons_zero, List.set_cons_succ, i64_w, i32_w]
      rfl
    refine pure_ (i := 26) (N := some 50) (v := ?_) (a' := ?_) #[true, true, true, true, true, true, true, true, true, true, true, true, true, true, true, true, true, true, true, true, true, true, true, true, true, true, true, false, false, false, false, false, false] rfl rfl (by kernel_rfl) (fun _ _ _ h => h) (Or.inl ⟨by rfl, ?_⟩) ?_ ?_
    rotate_left
    · intro w'
      go_simp
      with_reducible rfl
    rotate_left
    · simp only [Act.put, List.setIfInBounds_toArray, List.set_cons_zero, List.set_cons_succ, i64_w, i32_w]
      rfl
    refine pure_ (i := 28) (N := some 52) (v := ?_) (a' := ?_) #[true, true, true, true, true, true, true, true, true, true, true, true, true, true, true, true, true, true, true, true, true, true, true, true, true, true, true, false, true, false, false, false, false] rfl rfl (by kernel_rfl) (fun _ _ _ h => h) (Or.inl ⟨by rfl, ?_⟩) ?_ ?_
    rotate_left
    · intro w'
      go_simp
      with_reducible rfl
    rotate_left
    · simp only [Act.put, List.setIfInBounds_toArray, List.set_cons_zero, List.set_cons_succ, i64_w, i32_w]
      rfl
    refine take_ (i := 27) (N := some 51) (v := ?_) (a' := ?_) #[true, true, true, true, true, true, true, true, true, true, true, true, true, true, true, true, true, true, true, true, true, true, true, true, true, true, true, true, true, false, false, false, false] rfl rfl (by kernel_rfl) (fun _ _ _ h => h) (Or.inl ⟨by rfl, ?_⟩) hHeld ?_ ?_
    rotate_left
    · rintro w' ⟨s0, s1, s2, s3, s4, s5, s6, s7, s8, s9⟩
      go_simp
      with_reducible rfl
    rotate_left
    · simp only [Act.put, List.setIfInBounds_toArray, List.set_cons_zero, List.set_cons_succ, i64_w, i32_w]
      rfl
    refine take_ (i := 29) (N := some 53) (v := ?_) (a' := ?_) #[true, true, true, true, true, true, true, true, true, true, true, true, true, true, true, true, true, true, true, true, true, true, true, true, true, true, true, true, true, true, false, false, false] rfl rfl (by kernel_rfl) (fun _ _ _ h => h) (Or.inl ⟨by rfl, ?_⟩) hHeld ?_ ?_
    rotate_left
    · rintro w' ⟨s0, s1, s2, s3, s4, s5, s6, s7, s8, s9⟩
      go_simp
      with_reducible rfl
    rotate_left
    · simp only [Act.put, List.setIfInBounds_toArray, List.set_cons_zero, List.set_cons_succ, i64_w, i32_w]
      rfl
    refine pure_ (i := 30) (N := some 54) (v := ?_) (a' := ?_) #[true, true, true, true, true, true, true, true, true, true, true, true, true, true, true, true, true, true, true, true, true, true, true, true, true, true, true, true, true, true, true, false, false] rfl rfl (by kernel_rfl) (fun _ _ _ h => h) (Or.inl ⟨by rfl, ?_⟩) ?_ ?_
    rotate_left
    · intro w'
      go_simp
      with_reducible rfl
    rotate_left
    · simp only [Act.put, List.setIfInBounds_toArray, List.set_cons_zero, List.set_cons_succ, i64_w, i32_w]
      rfl
    refine pure_ (i := 31) (N := some 55) (v := ?_) (a' := ?_) #[true, true, true, true, true, true, true, true, true, true, true, true, true, true, true, true, true, true, true, true, true, true, true, true, true, true, true, true, true, true, true, true, false] rfl rfl (by kernel_rfl) (fun _ _ _ h => h) (Or.inl ⟨by rfl, ?_⟩) ?_ ?_
    rotate_left
    · intro w'
      go_simp
      with_reducible rfl
    rotate_left
    · simp only [Act.put, List.setIfInBounds_toArray, List.set_cons_zero, List.set_cons_succ, i64_w, i32_w]
      rfl
    refine pure_ (i := 32) (N := some 56) (v := ?_) (a' := ?_) #[true, true, true, true, true, true, true, true, true, true, true, true, true, true, true, true, true, true, true, true, true, true, true, true, true, true, true, true, true, true, true, true, true] rfl rfl (by kernel_rfl) (fun _ _ _ h => h) (Or.inl ⟨by rfl, ?_⟩) ?_ ?_
    rotate_left
    · intro w'
      go_simp
      with_reducible rfl
    rotate_left
    · simp only [Act.put, List.setIfInBounds_toArray, List.set_cons_zero, List.set_cons_succ, i64_w, i32_w]
      rfl
    refine done_ (by kernel_rfl) ?_

    go_wp2_with fail
    have HP := Aside0.mk hL6.sc.pl
    have HB := Aside0.mk hL6.sc.bel
    clear hL6 hL4 hb6
    refine (HA.out _ HP.out).mono ?_
    rintro e_ w7 ⟨i, rfl, hat, hb7⟩
    have HAT := Aside0.mk hat
    have HB7 := Aside0.mk hb7
    clear hat hb7
    cases hin : inn R n i with
    | true =>
      have HI := Aside0.mk hin
      clear hin
      go_wp2_with fail
      go_ret
      exact .inl ⟨HAT.out.inn_iff.1 HI.out, rfl, below_step HB.out HB7.out⟩
    | false =>
      have HI : Aside0 (¬ InR R n) := ⟨fun h => by have := HAT.out.inn_iff.2 h; rw [hin] at this; cases this⟩
      clear hin
      go_wp2_with fail
      refine (HL.out _ (HP.out.below HB7.out) HI.out).mono ?_
      rintro e_ w8 ⟨rfl, h8⟩
      have H8 := Aside0.mk h8
      clear h8
      go_wp2_with fail
      go_ret
      exact .inr ⟨HI.out, rfl, H8.out.after (below_step HB.out HB7.out)⟩
  · have hlob : decide (n < M.mn) = false := decide_eq_false hlo
    by_cases hhi : M.mx < n
    · have ht0 := HT.out (Classical.byContradiction fun h => HO.out ⟨.inr hhi, h⟩)
      have hhib : decide (M.mx < n) = true := decide_eq_true hhi
      subst ht0
      clear hlo hhi
      go_wp2_with fail
      have hL4 := hSLk.out _ (SC.drew hS1.out)
      refine start_ (n := 33) (S := fun w' => w'.cell? ⟨b, 0, none⟩ = some (.int .u32 M.na) ∧ w'.cell? ⟨b, 1, none⟩ = some (.int .i64 M.nl) ∧ w'.cell? ⟨b, 2, none⟩ = some (.int .i64 M.s) ∧ w'.cell? ⟨b, 3, none⟩ = some (.int .i64 M.mn) ∧ w'.cell? ⟨b, 4, none⟩ = some (.int .i64 M.mx) ∧ w'.cell? ⟨b, 6, none⟩ = some (.map (some bm)) ∧ w'.cell? ⟨w.heap.size, 0, none⟩ = some (.int .u32 a) ∧ w'.cell? ⟨w.heap.size, 1, none⟩ = some (.int .i64 l) ∧ (Instr.lookup 62 (.map (some bm)) (.int .i64 n) false).run Try.prog w' = .ok (.int .i64 1) w' ∧ SC w b vk bm vr M R w.heap.size a l w') (ds := []) #[false, false, false, false, false, false, false, false, false, false, false, false, false, false, false, false, false, false, false, false, false, false, false, false, false, false, false, false, false, false, false, false, false] (by kernel_rfl) rfl rfl ⟨(hL4).1, (hL4).2.1, (hL4).2.2.1, (hL4).2.2.2.1, (hL4).2.2.2.2.1, (hL4).2.2.2.2.2.1, (hL4).2.2.2.2.2.2.1, (hL4).2.2.2.2.2.2.2.1, (hL4).2.2.2.2.2.2.2.2.1, (hL4).2.2.2.2.2.2.2.2.2⟩ (fun hHeld => ?_)
      refine pure_ (i := 0) (N := some 24) (v := ?_) (a' := ?_) #[true, false, false, false, false, false, false, false, false, false, false, false, false, false, false, false, false, false, false, false, false, false, false, false, false, false, false, false, false, false, false, false, false] rfl rfl (by kernel_rfl) (fun _ _ _ h => h) (Or.inl ⟨by rfl, ?_⟩) ?_ ?_
      rotate_left
      · intro w'
        go_simp
        with_reducible rfl
      rotate_left
      · simp only [Act.put, List.setIfInBounds_toArray, List.set_cons_zero, List.set_cons_succ, i64_w, i32_w]
        rfl
      refine pure_ (i := 1) (N := some 25) (v := ?_) (a' := ?_) #[true, true, false, false, false, false, false, false, false, false, false, false, false, false, false, false, false, false, false, false, false, false, false, false, false, false, false, false, false, false, false, false, false] rfl rfl (by kernel_rfl) (fun _ _ _ h => h) (Or.inl ⟨by rfl, ?_⟩) ?_ ?_
      rotate_left
      · intro w'
        go_simp
        with_reducible rfl
      rotate_left
      · simp only [Act.put, List.setIfInBounds_toArray, List.set_cons_zero, List.set_cons_succ, i64_w, i32_w]
        rfl
      refine pure_ (i := 2) (N := some 26) (v := ?_) (a' := ?_) #[true, true, true, false, false, false, false, false, false, false, false, false, false, false, false, false, false, false, false, false, false, false, false, false, false, false, false, false, false, false, false, false, false] rfl rfl (by kernel_rfl) (fun _ _ _ h => h) (Or.inl ⟨by rfl, ?_⟩) ?_ ?_
      rotate_left
      · intro w'
        go_simp
        with_reducible rfl
      rotate_left
      · simp only [Act.put, List.setIfInBounds_toArray, List.set_cons_zero, List.set_cons_succ, i64_w, i32_w]
        rfl
      refine pure_ (i := 4) (N := some 28) (v := ?_) (a' := ?_) #[true, true, true, false, true, false, false, false, false, false, false, false, false, false, false, false, false, false, false, false, false, false, false, false, false, false, false, false, false, false, false, false, false] rfl rfl (by kernel_rfl) (fun _ _ _ h => h) (Or.inl ⟨by rfl, ?_⟩) ?_ ?_
      rotate_left
      · intro w'
        go_simp
        with_reducible rfl
      rotate_left
      · simp only [Act.put, List.setIfInBounds_toArray, List.set_cons_zero, List.set_cons_succ, i64_w, i32_w]
        rfl
      refine take_ (i := 3) (N := some 27) (v := ?_) (a' := ?_) #[true, true, true, true, true, false, false, false, false, false, false, false, false, false, false, false, false, false, false, false, false, false, false, false, false, false, false, false, false, false, false, false, false] rfl rfl (by kernel_rfl) (fun _ _ _ h => h) (Or.inl ⟨by rfl, ?_⟩) hHeld ?_ ?_
      rotate_left
      · rintro w' ⟨s0, s1, s2, s3, s4, s5, s6, s7, s8, s9⟩
        go_simp
        with_reducible rfl
      rotate_left
      · simp only [Act.put, List.setIfInBounds_toArray, List.set_cons_zero, List.set_cons_succ, i64_w, i32_w]
        rfl
      refine take_ (i := 5) (N := some 29) (v := ?_) (a' := ?_) #[true, true, true, true, true, true, false, false, false, false, false, false, false, false, false, false, false, false, false, false, false, false, false, false, false, false, false, false, false, false, false, false, false] rfl rfl (by kernel_rfl) (fun _ _ _ h => h) (Or.inl ⟨by rfl, ?_⟩) hHeld ?_ ?_
      rotate_left
      · rintro w' ⟨s0, s1, s2, s3, s4, s5, s6, s7, s8, s9⟩
        go_simp
        with_reducible rfl
      rotate_left
      · simp only [Act.put, List.setIfInBounds_toArray, List.set_cons_zero, List.set_cons_succ, i64_w, i32_w]
        rfl
      refine one_ (i := 6) (N := some 30) #[true, true, true, true, true, true, true, false, false, false, false, false, false, false, false, false, false, false, false, false, false, false, false, false, false, false, false, false, false, false, false, false, false] rfl rfl (by kernel_rfl) (by decide) (fun K hK => ?_)
      refine goes_ Try.func30 (by kernel_rfl) rfl #[.agg #[.int .u32 M.na, .int .i64 M.nl], .int .u32 a] (by rfl) rfl rfl (by simp only [List.map_toArray, List.map_cons, List.map_nil]; rfl) ?_
      with_reducible refine (hC.out _).mono ?_
      rintro e_ w6 ⟨rfl, hb6⟩
      refine ⟨_, rfl, ?_⟩
      have hL6 := hSLk.out _ (SC.keep hb6 hL4.sc)
      refine hK.out _ _ ⟨(hL6).1, (hL6).2.1, (hL6).2.2.1, (hL6).2.2.2.1, (hL6).2.2.2.2.1, (hL6).2.2.2.2.2.1, (hL6).2.2.2.2.2.2.1, (hL6).2.2.2.2.2.2.2.1, (hL6).2.2.2.2.2.2.2.2.1, (hL6).2.2.2.2.2.2.2.2.2⟩ (fun hHeld => ?_)
      clear hK K
      refine norm_ (a' := ?_) ?_ ?_
      rotate_left
      · show Act.put _ (some 30) _ = _
        simp only [Act.put, List.setIfInBounds_toArray, List.set_cons_zero, List.set_cons_succ, i64_w, i32_w]
        rfl
      refine pure_ (i := 7) (N := some 31) (v := ?_) (a' := ?_) #[true, true, true, true, true, true, true, true, false, false, false, false, false, false, false, false, false, false, false, false, false, false, false, false, false, false, false, false, false, false, false, false, false] rfl rfl (by kernel_rfl) (fun _ _ _ h => h) (Or.inl ⟨by rfl, ?_⟩) ?_ ?_
      rotate_left
      · intro w'
        go_simp
        with_reducible rfl
      rotate_left
      · simp only [Act.put, List.setIfInBounds_toArray, List.set_cons_zero, List.set_cons_succ, i64_w, i32_w]
        rfl
      refine pure_ (i := 8) (N := some 32) (v := ?_) (a' := ?_) #[true, true, true, true, true, true, true, true, true, false, false, false, false, false, false, false, false, false, false, false, false, false, false, false, false, false, false, false, false, false, false, false, false] rfl rfl (by kernel_rfl) (fun _ _ _ h => h) (Or.inl ⟨by rfl, ?_⟩) ?_ ?_
      rotate_left
      · intro w'
        go_simp
        with_reducible rfl
      rotate_left
      · simp only [Act.put, List.setIfInBounds_toArray, List.set_cons_zero, List.set_cons_succ, i64_w, i32_w]
        rfl
      refine pure_ (i := 9) (N := some 33) (v := ?_) (a' := ?_) #[true, true, true, true, true, true, true, true, true, true, false, false, false, false, false, false, false, false, false, false, false, false, false, false, false, false, false, false, false, false, false, false, false] rfl rfl (by kernel_rfl) (fun _ _ _ h => h) (Or.inl ⟨by rfl, ?_⟩) ?_ ?_
      rotate_left
      · intro w'
        go_simp
        with_reducible rfl
      rotate_left
      · simp only [Act.put, List.setIfInBounds_toArray, List.set_cons_zero, List.set_cons_succ, i64_w, i32_w]
        rfl
      refine pure_ (i := 10) (N := some 34) (v := ?_) (a' := ?_) #[true, true, true, true, true, true, true, true, true, true, true, false, false, false, false, false, false, false, false, false, false, false, false, false, false, false, false, false, false, false, false, false, false] rfl rfl (by kernel_rfl) (fun _ _ _ h => h) (Or.inl ⟨by rfl, ?_⟩) ?_ ?_
      rotate_left
      · intro w'
        go_simp
        with_reducible rfl
      rotate_left
      · simp only [Act.put, List.setIfInBounds_toArray, List.set_cons_zero, List.set_cons_succ, i64_w, i32_w]
        rfl
      refine pure_ (i := 11) (N := some 35) (v := ?_) (a' := ?_) #[true, true, true, true, true, true, true, true, true, true, true, true, false, false, false, false, false, false, false, false, false, false, false, false, false, false, false, false, false, false, false, false, false] rfl rfl (by kernel_rfl) (fun _ _ _ h => h) (Or.inl ⟨by rfl, ?_⟩) ?_ ?_
      rotate_left
      · intro w'
        go_simp
        with_reducible rfl
      rotate_left
      · simp only [Act.put, List.setIfInBounds_toArray, List.set_cons_zero, List.set_cons_succ, i64_w, i32_w]
        rfl
      refine pure_ (i := 12) (N := some 36) (v := ?_) (a' := ?_) #[true, true, true, true, true, true, true, true, true, true, true, true, true, false, false, false, false, false, false, false, false, false, false, false, false, false, false, false, false, false, false, false, false] rfl rfl (by kernel_rfl) (fun _ _ _ h => h) (Or.inl ⟨by rfl, ?_⟩) ?_ ?_
      rotate_left
      · intro w'
        go_simp
        with_reducible rfl
      rotate_left
      · simp only [Act.put, List.setIfInBounds_toArray, List.set_cons_zero, List.set_cons_succ, i64_w, i32_w]
        rfl
      refine take_ (i := 13) (N := some 37) (v := ?_) (a' := ?_) #[true, true, true, true, true, true, true, true, true, true, true, true, true, true, false, false, false, false, false, false, false, false, false, false, false, false, false, false, false, false, false, false, false] rfl rfl (by kernel_rfl) (fun _ _ _ h => h) (Or.inl ⟨by rfl, ?_⟩) hHeld ?_ ?_
      rotate_left
      · rintro w' ⟨s0, s1, s2, s3, s4, s5, s6, s7, s8, s9⟩
        go_simp
        with_reducible rfl
      rotate_left
      · simp only [Act.put, List.setIfInBounds_toArray, List.set_cons_zero, List.set_cons_succ, i64_w, i32_w]
        rfl
      refine pure_ (i := 14) (N := some 38) (v := ?_) (a' := ?_) #[true, true, true, true, true, true, true, true, true, true, true, true, true, true, true, false, false, false, false, false, false, false, false, false, false, false, false, false, false, false, false, false, false] rfl rfl (by kernel_rfl) (fun _ _ _ h => h) (Or.inl ⟨by rfl, ?_⟩) ?_ ?_
      rotate_left
      · intro w'
        go_simp
        with_reducible rfl
      rotate_left
      · simp only [Act.put, List.setIfInBounds_toArray, List.set_cons_zero, List.set_cons_succ, i64_w, i32_w]
        rfl
      refine pure_ (i := 15) (N := some 39) (v := ?_) (a' := ?_) #[true, true, true, true, true, true, true, true, true, true, true, true, true, true, true, true, false, false, false, false, false, false, false, false, false, false, false, false, false, false, false, false, false] rfl rfl (by kernel_rfl) (fun _ _ _ h => h) (Or.inl ⟨by rfl, ?_⟩) ?_ ?_
      rotate_left
      · intro w'
        go_simp
        with_reducible rfl
      rotate_left
      · simp only [Act.put, List.setIfInBounds_toArray, List.set_cons_zero, List.set_cons_succ, i64_w, i32_w]
        rfl
      refine pure_ (i := 16) (N := some 40) (v := ?_) (a' := ?_) #[true, true, true, true, true, true, true, true, true, true, true, true, true, true, true, true, true, false, false, false, false, false, false, false, false, false, false, false, false, false, false, false, false] rfl rfl (by kernel_rfl) (fun _ _ _ h => h) (Or.inl ⟨by rfl, ?_⟩) ?_ ?_
      rotate_left
      · intro w'
        go_simp
        with_reducible rfl
      rotate_left
      · simp only [Act.put, List.setIfInBounds_toArray, List.set_cons_zero, List.set_cons_succ, i64_w, i32_w]
        rfl
      refine pure_ (i := 17) (N := some 41) (v := ?_) (a' := ?_) #[true, true, true, true, true, true, true, true, true, true, true, true, true, true, true, true, true, true, false, false, false, false, false, false, false, false, false, false, false, false, false, false, false] rfl rfl (by kernel_rfl) (fun _ _ _ h => h) (Or.inl ⟨by rfl, ?_⟩) ?_ ?_
      rotate_left
      · intro w'
        go_simp
        with_reducible rfl
      rotate_left
      · simp only [Act.put, List.setIfInBounds_toArray, List.set_cons_zero, List.set_cons_succ, i64_w, i32_w]
        rfl
      refine pure_ (i := 18) (N := some 42) (v := ?_) (a' := ?_) #[true, true, true, true, true, true, true, true, true, true, true, true, true, true, true, true, true, true, true, false, false, false, false, false, false, false, false, false, false, false, false, false, false] rfl rfl (by kernel_rfl) (fun _ _ _ h => h) (Or.inl ⟨by rfl, ?_⟩) ?_ ?_
      rotate_left
      · intro w'
        go_simp
        with_reducible rfl
      rotate_left
      · simp only [Act.put, List.setIfInBounds_toArray, List.set_cons_zero, List.set_cons_succ, i64_w, i32_w]
        rfl
      refine pure_ (i := 19) (N := some 43) (v := ?_) (a' := ?_) #[true, true, true, true, true, true, true, true, true, true, true, true, true, true, true, true, true, true, true, true, false, false, false, false, false, false, false, false, false, false, false, false, false] rfl rfl (by kernel_rfl) (fun _ _ _ h => h) (Or.inl ⟨by rfl, ?_⟩) ?_ ?_
      rotate_left
      · intro w'
        go_simp
        with_reducible rfl
      rotate_left
      · simp only [Act.put, List.setIfInBounds_toArray, List.set_cons_zero, List.set_cons_succ, i64_w, i32_w]
        rfl
      refine take_ (i := 20) (N := some 44) (v := ?_) (a' := ?_) #[true, true, true, true, true, true, true, true, true, true, true, true, true, true, true, true, true, true, true, true, true, false, false, false, false, false, false, false, false, false, false, false, false] rfl rfl (by kernel_rfl) (fun _ _ _ h => h) (Or.inl ⟨by rfl, ?_⟩) hHeld ?_ ?_
      rotate_left
      · rintro w' ⟨s0, s1, s2, s3, s4, s5, s6, s7, s8, s9⟩
        go_simp
        with_reducible rfl
      rotate_left
      · simp only [Act.put, List.setIfInBounds_toArray, List.set_cons_zero, List.set_cons_succ, i64_w, i32_w]
        rfl
      refine pure_ (i := 21) (N := some 45) (v := ?_) (a' := ?_) #[true, true, true, true, true, true, true, true, true, true, true, true, true, true, true, true, true, true, true, true, true, true, false, false, false, false, false, false, false, false, false, false, false] rfl rfl (by kernel_rfl) (fun _ _ _ h => h) (Or.inl ⟨by rfl, ?_⟩) ?_ ?_
      rotate_left
      · intro w'
        go_simp
        with_reducible rfl
      rotate_left
      · simp only [Act.put, List.setIfInBounds_toArray, List.set_cons_zero, List.set_cons_succ, i64_w, i32_w]
        rfl
      refine pure_ (i := 22) (N := some 46) (v := ?_) (a' := ?_) #[true, true, true, true, true, true, true, true, true, true, true, true, true, true, true, true, true, true, true, true, true, true, true, false, false, false, false, false, false, false, false, false, false] rfl rfl (by kernel_rfl) (fun _ _ _ h => h) (Or.inl ⟨by rfl, ?_⟩) ?_ ?_
      rotate_left
      · intro w'
        go_simp
        with_reducible rfl
      rotate_left
      · simp only [Act.put, List.setIfInBounds_toArray, List.set_cons_zero, List.set_cons_succ, i64_w, i32_w]
        rfl
      refine pure_ (i := 23) (N := some 47) (v := ?_) (a' := ?_) #[true, true, true, true, true, true, true, true, true, true, true, true, true, true, true, true, true, true, true, true, true, true, true, true, false, false, false, false, false, false, false, false, false] rfl rfl (by kernel_rfl) (fun _ _ _ h => h) (Or.inl ⟨by rfl, ?_⟩) ?_ ?_
      rotate_left
      · intro w'
        go_simp
        with_reducible rfl
      rotate_left
      · simp only [Act.put, List.setIfInBounds_toArray, List.set_cons_zero, List.set_cons_succ, i64_w, i32_w]
        rfl
      refine pure_ (i := 24) (N := some 48) (v := ?_) (a' := ?_) #[true, true, true, true, true, true, true, true, true, true, true, true, true, true, true, true, true, true, true, true, true, true, true, true, true, false, false, false, false, false, false, false, false] rfl rfl (by kernel_rfl) (fun _ _ _ h => h) (Or.inl ⟨by rfl, ?_⟩) ?_ ?_
      rotate_left
      · intro w'
        go_simp
        with_reducible rfl
      rotate_left
      · simp only [Act.put, List.setIfInBounds_toArray, List.set_cons_zero, List.set_cons_succ, i64_w, i32_w]
        rfl
      refine pure_ (i := 25) (N := some 49) (v := ?_) (a' := ?_) #[true, true, true, true, true, true, true, true, true, true, true, true, true, true, true, true, true, true, true, true, true, true, true, true, true, true, false, false, false, false, false, false, false] rfl rfl (by kernel_rfl) (fun _ _ _ h => h) (Or.inl ⟨by rfl, ?_⟩) ?_ ?_
      rotate_left
      · intro w'
        go_simp
        with_reducible rfl
      rotate_left
      · simp only [Act.put, List.setIfInBounds_toArray, List.set_cons_zero, List.set_cons_succ, i64_w, i32_w]
        rfl
      refine pure_ (i := 26) (N := some 50) (v := ?_) (a' := ?_) #[true, true, true, true, true, true, true, true, true, true, true, true, true, true, true, true, true, true, true, true, true, true, true, true, true, true, true, false, false, false, false, false, false] rfl rfl (by kernel_rfl) (fun _ _ _ h => h) (Or.inl ⟨by rfl, ?_⟩) ?_ ?_
      rotate_left
      · intro w'
        go_simp
        with_reducible rfl
      rotate_left
      · simp only [Act.put, List.setIfInBounds_toArray, List.set_cons_zero, List.set_cons_succ, i64_w, i32_w]
        rfl
      refine pure_ (i := 28) (N := some 52) (v := ?_) (a' := ?_) #[true, true, true, true, true, true, true, true, true, true, true, true, true, true, true, true, true, true, true, true, true, true, true, true, true, true, true, false, true, false, false, false, false] rfl rfl (by kernel_rfl) (fun _ _ _ h => h) (Or.inl ⟨by rfl, ?_⟩) ?_ ?_
      rotate_left
      · intro w'
        go_simp
        with_reducible rfl
      rotate_left
      · simp only [Act.put, List.setIfInBounds_toArray, List.set_cons_zero, List.set_cons_succ, i64_w, i32_w]
        rfl
      refine take_ (i := 27) (N := some 51) (v := ?_) (a' := ?_) #[true, true, true, true, true, true, true, true, true, true, true, true, true, true, true, true, true, true, true, true, true, true, true, true, true, true, true, true, true, false, false, false, false] rfl rfl (by kernel_rfl) (fun _ _ _ h => h) (Or.inl ⟨by rfl, ?_⟩) hHeld ?_ ?_
      rotate_left
      · rintro w' ⟨s0, s1, s2, s3, s4, s5, s6, s7, s8, s9⟩
        go_simp
        with_reducible rfl
      rotate_left
      · simp only [Act.put, List.setIfInBounds_toArray, List.set_cons_zero, List.set_cons_succ, i64_w, i32_w]
        rfl
      refine take_ (i := 29) (N := some 53) (v := ?_) (a' := ?_) #[true, true, true, true, true, true, true, true, true, true, true, true, true, true, true, true, true, true, true, true, true, true, true, true, true, true, true, true, true, true, false, false, false] rfl rfl (by kernel_rfl) (fun _ _ _ h => h) (Or.inl ⟨by rfl, ?_⟩) hHeld ?_ ?_
      rotate_left
      · rintro w' ⟨s0, s1, s2, s3, s4, s5, s6, s7, s8, s9⟩
        go_simp
        with_reducible rfl
      rotate_left
      · simp only [Act.put, List.setIfInBounds_toArray, List.set_cons_zero, List.set_cons_succ, i64_w, i32_w]
        rfl
      refine pure_ (i := 30) (N := some 54) (v := ?_) (a' := ?_) #[true, true, true, true, true, true, true, true, true, true, true, true, true, true, true, true, true, true, true, true, true, true, true, true, true, true, true, true, true, true, true, false, false] rfl rfl (by kernel_rfl) (fun _ _ _ h => h) (Or.inl ⟨by rfl, ?_⟩) ?_ ?_
      rotate_left
      · intro w'
        go_simp
        with_reducible rfl
      rotate_left
      · simp only [Act.put, List.setIfInBounds_toArray, List.set_cons_zero, List.set_cons_succ, i64_w, i32_w]
        rfl
      refine pure_ (i := 31) (N := some 55) (v := ?_) (a' := ?_) #[true, true, true, true, true, true, true, true, true, true, true, true, true, true, true, true, true, true, true, true, true, true, true, true, true, true, true, true, true, true, true, true, false] rfl rfl (by kernel_rfl) (fun _ _ _ h => h) (Or.inl ⟨by rfl, ?_⟩) ?_ ?_
      rotate_left
      · intro w'
        go_simp
        with_reducible rfl
      rotate_left
      · simp only [Act.put, List.setIfInBounds_toArray, List.set_cons_zero, List.set_cons_succ, i64_w, i32_w]
        rfl
      refine pure_ (i := 32) (N := some 56) (v := ?_) (a' := ?_) #[true, true, true, true, true, true, true, true, true, true, true, true, true, true, true, true, true, true, true, true, true, true, true, true, true, true, true, true, true, true, true, true, true] rfl rfl (by kernel_rfl) (fun _ _ _ h => h) (Or.inl ⟨by rfl, ?_⟩) ?_ ?_
      rotate_left
      · intro w'
        go_simp
        with_reducible rfl
      rotate_left
      · simp only [Act.put, List.setIfInBounds_toArray, List.set_cons_zero, List.set_cons_succ, i64_w, i32_w]
        rfl
      refine done_ (by kernel_rfl) ?_

      go_wp2_with fail
      have HP := Aside0.mk hL6.sc.pl
      have HB := Aside0.mk hL6.sc.bel
      clear hL6 hL4 hb6
      refine (HA.out _ HP.out).mono ?_
      rintro e_ w7 ⟨i, rfl, hat, hb7⟩
      have HAT := Aside0.mk hat
      have HB7 := Aside0.mk hb7
      clear hat hb7
      cases hin : inn R n i with
      | true =>
        have HI := Aside0.mk hin
        clear hin
        go_wp2_with fail
        go_ret
        exact .inl ⟨HAT.out.inn_iff.1 HI.out, rfl, below_step HB.out HB7.out⟩
      | false =>
        have HI : Aside0 (¬ InR R n) := ⟨fun h => by have := HAT.out.inn_iff.2 h; rw [hin] at this; cases this⟩
        clear hin
        go_wp2_with fail
        refine (HL.out _ (HP.out.below HB7.out) HI.out).mono ?_
        rintro e_ w8 ⟨rfl, h8⟩
        have H8 := Aside0.mk h8
        clear h8
        go_wp2_with fail
        go_ret
        exact .inr ⟨HI.out, rfl, H8.out.after (below_step HB.out HB7.out)⟩
    · have hhib : decide (M.mx < n) = false := decide_eq_false hhi
      clear hlo hhi
      go_wp2_with fail
      have hL4 := hSLk.out _ (SC.drew hS1.out)
      refine start_ (n := 33) (S := fun w' => w'.cell? ⟨b, 0, none⟩ = some (.int .u32 M.na) ∧ w'.cell? ⟨b, 1, none⟩ = some (.int .i64 M.nl) ∧ w'.cell? ⟨b, 2, none⟩ = some (.int .i64 M.s) ∧ w'.cell? ⟨b, 3, none⟩ = some (.int .i64 M.mn) ∧ w'.cell? ⟨b, 4, none⟩ = some (.int .i64 M.mx) ∧ w'.cell? ⟨b, 6, none⟩ = some (.map (some bm)) ∧ w'.cell? ⟨w.heap.size, 0, none⟩ = some (.int .u32 a) ∧ w'.cell? ⟨w.heap.size, 1, none⟩ = some (.int .i64 l) ∧ (Instr.lookup 62 (.map (some bm)) (.int .i64 n) false).run Try.prog w' = .ok (.int .i64 t) w' ∧ SC w b vk bm vr M R w.heap.size a l w') (ds := []) #[false, false, false, false, false, false, false, false, false, false, false, false, false, false, false, false, false, false, false, false, false, false, false, false, false, false, false, false, false, false, false, false, false] (by kernel_rfl) rfl rfl ⟨(hL4).1, (hL4).2.1, (hL4).2.2.1, (hL4).2.2.2.1, (hL4).2.2.2.2.1, (hL4).2.2.2.2.2.1, (hL4).2.2.2.2.2.2.1, (hL4).2.2.2.2.2.2.2.1, (hL4).2.2.2.2.2.2.2.2.1, (hL4).2.2.2.2.2.2.2.2.2⟩ (fun hHeld => ?_)
      refine pure_ (i := 0) (N := some 24) (v := ?_) (a' := ?_) #[true, false, false, false, false, false, false, false, false, false, false, false, false, false, false, false, false, false, false, false, false, false, false, false, false, false, false, false, false, false, false, false, false] rfl rfl (by kernel_rfl) (fun _ _ _ h => h) (Or.inl ⟨by rfl, ?_⟩) ?_ ?_
      rotate_left
      · intro w'
        go_simp
        with_reducible rfl
      rotate_left
      · simp only [Act.put, List.setIfInBounds_toArray, List.set_cons_zero, List.set_cons_succ, i64_w, i32_w]
        rfl
      refine pure_ (i := 1) (N := some 25) (v := ?_) (a' := ?_) #[true, true, false, false, false, false, false, false, false, false, false, false, false, false, false, false, false, false, false, false, false, false, false, false, false, false, false, false, false, false, false, false, false] rfl rfl (by kernel_rfl) (fun _ _ _ h => h) (Or.inl ⟨by rfl, ?_⟩) ?_ ?_
      rotate_left
      · intro w'
        go_simp
        with_reducible rfl
      rotate_left
      · simp only [Act.put, List.setIfInBounds_toArray, List.set_cons_zero, List.set_cons_succ, i64_w, i32_w]
        rfl
      refine pure_ (i := 2) (N := some 26) (v := ?_) (a' := ?_) #[true, true, true, false, false, false, false, false, false, false, false, false, false, false, false, false, false, false, false, false, false, false, false, false, false, false, false, false, false, false, false, false, false] rfl rfl (by kernel_rfl) (fun _ _ _ h => h) (Or.inl ⟨by rfl, ?_⟩) ?_ ?_
      rotate_left
      · intro w'
        go_simp
        with_reducible rfl
      rotate_left
      · simp only [Act.put, List.setIfInBounds_toArray, List.set_cons_zero, List.set_cons_succ, i64_w, i32_w]
        rfl
      refine pure_ (i := 4) (N := some 28) (v := ?_) (a' := ?_) #[true, true, true, false, true, false, false, false, false, false, false, false, false, false, false, false, false, false, false, false, false, false, false, false, false, false, false, false, false, false, false, false, false] rfl rfl (by kernel_rfl) (fun _ _ _ h => h) (Or.inl ⟨by rfl, ?_⟩) ?_ ?_
      rotate_left
      · intro w'
        go_simp
        with_reducible rfl
      rotate_left
      · simp only [Act.put, List.setIfInBounds_toArray, List.set_cons_zero, List.set_cons_succ, i64_w, i32_w]
        rfl
      refine take_ (i := 3) (N := some 27) (v := ?_) (a' := ?_) #[true, true, true, true, true, false, false, false, false, false, false, false, false, false, false, false, false, false, false, false, false, false, false, false, false, false, false, false, false, false, false, false, false] rfl rfl (by kernel_rfl) (fun _ _ _ h => h) (Or.inl ⟨by rfl, ?_⟩) hHeld ?_ ?_
      rotate_left
      · rintro w' ⟨s0, s1, s2, s3, s4, s5, s6, s7, s8, s9⟩
        go_simp
        with_reducible rfl
      rotate_left
      · simp only [Act.put, List.setIfInBounds_toArray, List.set_cons_zero, List.set_cons_succ, i64_w, i32_w]
        rfl
      refine take_ (i := 5) (N := some 29) (v := ?_) (a' := ?_) #[true, true, true, true, true, true, false, false, false, false, false, false, false, false, false, false, false, false, false, false, false, false, false, false, false, false, false, false, false, false, false, false, false] rfl rfl (by kernel_rfl) (fun _ _ _ h => h) (Or.inl ⟨by rfl, ?_⟩) hHeld ?_ ?_
      rotate_left
      · rintro w' ⟨s0, s1, s2, s3, s4, s5, s6, s7, s8, s9⟩
        go_simp
        with_reducible rfl
      rotate_left
      · simp only [Act.put, List.setIfInBounds_toArray, List.set_cons_zero, List.set_cons_succ, i64_w, i32_w]
        rfl
      refine one_ (i := 6) (N := some 30) #[true, true, true, true, true, true, true, false, false, false, false, false, false, false, false, false, false, false, false, false, false, false, false, false, false, false, false, false, false, false, false, false, false] rfl rfl (by kernel_rfl) (by decide) (fun K hK => ?_)
      refine goes_ Try.func30 (by kernel_rfl) rfl #[.agg #[.int .u32 M.na, .int .i64 M.nl], .int .u32 a] (by rfl) rfl rfl (by simp only [List.map_toArray, List.map_cons, List.map_nil]; rfl) ?_
      with_reducible refine (hC.out _).mono ?_
      rintro e_ w6 ⟨rfl, hb6⟩
      refine ⟨_, rfl, ?_⟩
      have hL6 := hSLk.out _ (SC.keep hb6 hL4.sc)
      refine hK.out _ _ ⟨(hL6).1, (hL6).2.1, (hL6).2.2.1, (hL6).2.2.2.1, (hL6).2.2.2.2.1, (hL6).2.2.2.2.2.1, (hL6).2.2.2.2.2.2.1, (hL6).2.2.2.2.2.2.2.1, (hL6).2.2.2.2.2.2.2.2.1, (hL6).2.2.2.2.2.2.2.2.2⟩ (fun hHeld => ?_)
      clear hK K
      refine norm_ (a' := ?_) ?_ ?_
      rotate_left
      · show Act.put _ (some 30) _ = _
        simp only [Act.put, List.setIfInBounds_toArray, List.set_cons_zero, List.set_cons_succ, i64_w, i32_w]
        rfl
      refine pure_ (i := 7) (N := some 31) (v := ?_) (a' := ?_) #[true, true, true, true, true, true, true, true, false, false, false, false, false, false, false, false, false, false, false, false, false, false, false, false, false, false, false, false, false, false, false, false, false] rfl rfl (by kernel_rfl) (fun _ _ _ h => h) (Or.inl ⟨by rfl, ?_⟩) ?_ ?_
      rotate_left
      · intro w'
        go_simp
        with_reducible rfl
      rotate_left
      · simp only [Act.put, List.setIfInBounds_toArray, List.set_cons_zero, List.set_cons_succ, i64_w, i32_w]
        rfl
      refine pure_ (i := 8) (N := some 32) (v := ?_) (a' := ?_) #[true, true, true, true, true, true, true, true, true, false, false, false, false, false, false, false, false, false, false, false, false, false, false, false, false, false, false, false, false, false, false, false, false] rfl rfl (by kernel_rfl) (fun _ _ _ h => h) (Or.inl ⟨by rfl, ?_⟩) ?_ ?_
      rotate_left
      · intro w'
        go_simp
        with_reducible rfl
      rotate_left
      · simp only [Act.put, List.setIfInBounds_toArray, List.set_cons_zero, List.set_cons_succ, i64_w, i32_w]
        rfl
      refine pure_ (i := 9) (N := some 33) (v := ?_) (a' := ?_) #[true, true, true, true, true, true, true, true, true, true, false, false, false, false, false, false, false, false, false, false, false, false, false, false, false, false, false, false, false, false, false, false, false] rfl rfl (by kernel_rfl) (fun _ _ _ h => h) (Or.inl ⟨by rfl, ?_⟩) ?_ ?_
      rotate_left
      · intro w'
        go_simp
        with_reducible rfl
      rotate_left
      · simp only [Act.put, List.setIfInBounds_toArray, List.set_cons_zero, List.set_cons_succ, i64_w, i32_w]
        rfl
      refine pure_ (i := 10) (N := some 34) (v := ?_) (a' := ?_) #[true, true, true, true, true, true, true, true, true, true, true, false, false, false, false, false, false, false, false, false, false, false, false, false, false, false, false, false, false, false, false, false, false] rfl rfl (by kernel_rfl) (fun _ _ _ h => h) (Or.inl ⟨by rfl, ?_⟩) ?_ ?_
      rotate_left
      · intro w'
        go_simp
        with_reducible rfl
      rotate_left
      · simp only [Act.put, List.setIfInBounds_toArray, List.set_cons_zero, List.set_cons_succ, i64_w, i32_w]
        rfl
      refine pure_ (i := 11) (N := some 35) (v := ?_) (a' := ?_) #[true, true, true, true, true, true, true, true, true, true, true, true, false, false, false, false, false, false, false, false, false, false, false, false, false, false, false, false, false, false, false, false, false] rfl rfl (by kernel_rfl) (fun _ _ _ h => h) (Or.inl ⟨by rfl, ?_⟩) ?_ ?_
      rotate_left
      · intro w'
        go_simp
        with_reducible rfl
      rotate_left
      · simp only [Act.put, List.setIfInBounds_toArray, List.set_cons_zero, List.set_cons_succ, i64_w, i32_w]
        rfl
      refine pure_ (i := 12) (N := some 36) (v := ?_) (a' := ?_) #[true, true, true, true, true, true, true, true, true, true, true, true, true, false, false, false, false, false, false, false, false, false, false, false, false, false, false, false, false, false, false, false, false] rfl rfl (by kernel_rfl) (fun _ _ _ h => h) (Or.inl ⟨by rfl, ?_⟩) ?_ ?_
      rotate_left
      · intro w'
        go_simp
        with_reducible rfl
      rotate_left
      · simp only [Act.put, List.setIfInBounds_toArray, List.set_cons_zero, List.set_cons_succ, i64_w, i32_w]
        rfl
      refine take_ (i := 13) (N := some 37) (v := ?_) (a' := ?_) #[true, true, true, true, true, true, true, true, true, true, true, true, true, true, false, false, false, false, false, false, false, false, false, false, false, false, false, false, false, false, false, false, false] rfl rfl (by kernel_rfl) (fun _ _ _ h => h) (Or.inl ⟨by rfl, ?_⟩) hHeld ?_ ?_
      rotate_left
      · rintro w' ⟨s0, s1, s2, s3, s4, s5, s6, s7, s8, s9⟩
        go_simp
        with_reducible rfl
      rotate_left
      · simp only [Act.put, List.setIfInBounds_toArray, List.set_cons_zero, List.set_cons_succ, i64_w, i32_w]
        rfl
      refine pure_ (i := 14) (N := some 38) (v := ?_) (a' := ?_) #[true, true, true, true, true, true, true, true, true, true, true, true, true, true, true, false, false, false, false, false, false, false, false, false, false, false, false, false, false, false, false, false, false] rfl rfl (by kernel_rfl) (fun _ _ _ h => h) (Or.inl ⟨by rfl, ?_⟩) ?_ ?_
      rotate_left
      · intro w'
        go_simp
        with_reducible rfl
      rotate_left
      · simp only [Act.put, List.setIfInBounds_toArray, List.set_cons_zero, List.set_cons_succ, i64_w, i32_w]
        rfl
      refine pure_ (i := 15) (N := some 39) (v := ?_) (a' := ?_) #[true, true, true, true, true, true, true, true, true, true, true, true, true, true, true, true, false, false, false, false, false, false, false, false, false, false, false, false, false, false, false, false, false] rfl rfl (by kernel_rfl) (fun _ _ _ h => h) (Or.inl ⟨by rfl, ?_⟩) ?_ ?_
      rotate_left
      · intro w'
        go_simp
        with_reducible rfl
      rotate_left
      · simp only [Act.put, List.setIfInBounds_toArray, List.set_cons_zero, List.set_cons_succ, i64_w, i32_w]
        rfl
      refine pure_ (i := 16) (N := some 40) (v := ?_) (a' := ?_) #[true, true, true, true, true, true, true, true, true, true, true, true, true, true, true, true, true, false, false, false, false, false, false, false, false, false, false, false, false, false, false, false, false] rfl rfl (by kernel_rfl) (fun _ _ _ h => h) (Or.inl ⟨by rfl, ?_⟩) ?_ ?_
      rotate_left
      · intro w'
        go_simp
        with_reducible rfl
      rotate_left
      · simp only [Act.put, List.setIfInBounds_toArray, List.set_cons_zero, List.set_cons_succ, i64_w, i32_w]
        rfl
      refine pure_ (i := 17) (N := some 41) (v := ?_) (a' := ?_) #[true, true, true, true, true, true, true, true, true, true, true, true, true, true, true, true, true, true, false, false, false, false, false, false, false, false, false, false, false, false, false, false, false] rfl rfl (by kernel_rfl) (fun _ _ _ h => h) (Or.inl ⟨by rfl, ?_⟩) ?_ ?_
      rotate_left
      · intro w'
        go_simp
        with_reducible rfl
      rotate_left
      · simp only [Act.put, List.setIfInBounds_toArray, List.set_cons_zero, List.set_cons_succ, i64_w, i32_w]
        rfl
      refine pure_ (i := 18) (N := some 42) (v := ?_) (a' := ?_) #[true, true, true, true, true, true, true, true, true, true, true, true, true, true, true, true, true, true, true, false, false, false, false, false, false, false, false, false, false, false, false, false, false] rfl rfl (by kernel_rfl) (fun _ _ _ h => h) (Or.inl ⟨by rfl, ?_⟩) ?_ ?_
      rotate_left
      · intro w'
        go_simp
        with_reducible rfl
      rotate_left
      · simp only [Act.put, List.setIfInBounds_toArray, List.set_cons_zero, List.set_cons_succ, i64_w, i32_w]
        rfl
      refine pure_ (i := 19) (N := some 43) (v := ?_) (a' := ?_) #[true, true, true, true, true, true, true, true, true, true, true, true, true, true, true, true, true, true, true, true, false, false, false, false, false, false, false, false, false, false, false, false, false] rfl rfl (by kernel_rfl) (fun _ _ _ h => h) (Or.inl ⟨by rfl, ?_⟩) ?_ ?_
      rotate_left
      · intro w'
        go_simp
        with_reducible rfl
      rotate_left
      · simp only [Act.put, List.setIfInBounds_toArray, List.set_cons_zero, List.set_cons_succ, i64_w, i32_w]
        rfl
      refine take_ (i := 20) (N := some 44) (v := ?_) (a' := ?_) #[true, true, true, true, true, true, true, true, true, true, true, true, true, true, true, true, true, true, true, true, true, false, false, false, false, false, false, false, false, false, false, false, false] rfl rfl (by kernel_rfl) (fun _ _ _ h => h) (Or.inl ⟨by rfl, ?_⟩) hHeld ?_ ?_
      rotate_left
      · rintro w' ⟨s0, s1, s2, s3, s4, s5, s6, s7, s8, s9⟩
        go_simp
        with_reducible rfl
      rotate_left
      · simp only [Act.put, List.setIfInBounds_toArray, List.set_cons_zero, List.set_cons_succ, i64_w, i32_w]
        rfl
      refine pure_ (i := 21) (N := some 45) (v := ?_) (a' := ?_) #[true, true, true, true, true, true, true, true, true, true, true, true, true, true, true, true, true, true, true, true, true, true, false, false, false, false, false, false, false, false, false, false, false] rfl rfl (by kernel_rfl) (fun _ _ _ h => h) (Or.inl ⟨by rfl, ?_⟩) ?_ ?_
      rotate_left
      · intro w'
        go_simp
        with_reducible rfl
      rotate_left
      · simp only [Act.put, List.setIfInBounds_toArray, List.set_cons_zero, List.set_cons_succ, i64_w, i32_w]
        rfl
      refine pure_ (i := 22) (N := some 46) (v := ?_) (a' := ?_) #[true, true, true, true, true, true, true, true, true, true, true, true, true, true, true, true, true, true, true, true, true, true, true, false, false, false, false, false, false, false, false, false, false] rfl rfl (by kernel_rfl) (fun _ _ _ h => h) (Or.inl ⟨by rfl, ?_⟩) ?_ ?_
      rotate_left
      · intro w'
        go_simp
        with_reducible rfl
      rotate_left
      · simp only [Act.put, List.setIfInBounds_toArray, List.set_cons_zero, List.set_cons_succ, i64_w, i32_w]
        rfl
      refine pure_ (i := 23) (N := some 47) (v := ?_) (a' := ?_) #[true, true, true, true, true, true, true, true, true, true, true, true, true, true, true, true, true, true, true, true, true, true, true, true, false, false, false, false, false, false, false, false, false] rfl rfl (by kernel_rfl) (fun _ _ _ h => h) (Or.inl ⟨by rfl, ?_⟩) ?_ ?_
      rotate_left
      · intro w'
        go_simp
        with_reducible rfl
      rotate_left
      · simp only [Act.put, List.setIfInBounds_toArray, List.set_cons_zero, List.set_cons_succ, i64_w, i32_w]
        rfl
      refine pure_ (i := 24) (N := some 48) (v := undef) (a' := ?_) #[true, true, true, true, true, true, true, true, true, true, true, true, true, true, true, true, true, true, true, true, true, true, true, true, true, false, false, false, false, false, false, false, false] rfl rfl (by kernel_rfl) (fun _ _ _ h => h) (Or.inr ⟨by rfl, rfl⟩) ?_ ?_
      rotate_left
      · simp only [Act.put, List.setIfInBounds_toArray, List.set_cons_zero, List.set_cons_succ, i64_w, i32_w]
        rfl
      refine pure_ (i := 25) (N := some 49) (v := undef) (a' := ?_) #[true, true, true, true, true, true, true, true, true, true, true, true, true, true, true, true, true, true, true, true, true, true, true, true, true, true, false, false, false, false, false, false, false] rfl rfl (by kernel_rfl) (fun _ _ _ h => h) (Or.inr ⟨by rfl, rfl⟩) ?_ ?_
      rotate_left
      · simp only [Act.put, List.setIfInBounds_toArray, List.set_cons_zero, List.set_cons_succ, i64_w, i32_w]
        rfl
      refine pure_ (i := 26) (N := some 50) (v := undef) (a' := ?_) #[true, true, true, true, true, true, true, true, true, true, true, true, true, true, true, true, true, true, true, true, true, true, true, true, true, true, true, false, false, false, false, false, false] rfl rfl (by kernel_rfl) (fun _ _ _ h => h) (Or.inr ⟨by rfl, rfl⟩) ?_ ?_
      rotate_left
      · simp only [Act.put, List.setIfInBounds_toArray, List.set_cons_zero, List.set_cons_succ, i64_w, i32_w]
        rfl
      refine pure_ (i := 27) (N := some 51) (v := undef) (a' := ?_) #[true, true, true, true, true, true, true, true, true, true, true, true, true, true, true, true, true, true, true, true, true, true, true, true, true, true, true, true, false, false, false, false, false] rfl rfl (by kernel_rfl) (fun _ _ _ h => h) (Or.inr ⟨by rfl, rfl⟩) ?_ ?_
      rotate_left
      · simp only [Act.put, List.setIfInBounds_toArray, List.set_cons_zero, List.set_cons_succ, i64_w, i32_w]
        rfl
      refine pure_ (i := 28) (N := some 52) (v := undef) (a' := ?_) #[true, true, true, true, true, true, true, true, true, true, true, true, true, true, true, true, true, true, true, true, true, true, true, true, true, true, true, true, true, false, false, false, false] rfl rfl (by kernel_rfl) (fun _ _ _ h => h) (Or.inr ⟨by rfl, rfl⟩) ?_ ?_
      rotate_left
      · simp only [Act.put, List.setIfInBounds_toArray, List.set_cons_zero, List.set_cons_succ, i64_w, i32_w]
        rfl
      refine pure_ (i := 29) (N := some 53) (v := undef) (a' := ?_) #[true, true, true, true, true, true, true, true, true, true, true, true, true, true, true, true, true, true, true, true, true, true, true, true, true, true, true, true, true, true, false, false, false] rfl rfl (by kernel_rfl) (fun _ _ _ h => h) (Or.inr ⟨by rfl, rfl⟩) ?_ ?_
      rotate_left
      · simp only [Act.put, List.setIfInBounds_toArray, List.set_cons_zero, List.set_cons_succ, i64_w, i32_w]
        rfl
      refine pure_ (i := 30) (N := some 54) (v := undef) (a' := ?_) #[true, true, true, true, true, true, true, true, true, true, true, true, true, true, true, true, true, true, true, true, true, true, true, true, true, true, true, true, true, true, true, false, false] rfl rfl (by kernel_rfl) (fun _ _ _ h => h) (Or.inr ⟨by rfl, rfl⟩) ?_ ?_
      rotate_left
      · simp only [Act.put, List.setIfInBounds_toArray, List.set_cons_zero, List.set_cons_succ, i64_w, i32_w]
        rfl
      refine pure_ (i := 31) (N := some 55) (v := ?_) (a' := ?_) #[true, true, true, true, true, true, true, true, true, true, true, true, true, true, true, true, true, true, true, true, true, true, true, true, true, true, true, true, true, true, true, true, false] rfl rfl (by kernel_rfl) (fun _ _ _ h => h) (Or.inl ⟨by rfl, ?_⟩) ?_ ?_
      rotate_left
      · intro w'
        go_simp
        with_reducible rfl
      rotate_left
      · simp only [Act.put, List.setIfInBounds_toArray, List.set_cons_zero, List.set_cons_succ, i64_w, i32_w]
        rfl
      refine pure_ (i := 32) (N := some 56) (v := ?_) (a' := ?_) #[true, true, true, true, true, true, true, true, true, true, true, true, true, true, true, true, true, true, true, true, true, true, true, true, true, true, true, true, true, true, true, true, true] rfl rfl (by kernel_rfl) (fun _ _ _ h => h) (Or.inl ⟨by rfl, ?_⟩) ?_ ?_
      rotate_left
      · intro w'
        go_simp
        with_reducible rfl
      rotate_left
      · simp only [Act.put, List.setIfInBounds_toArray, List.set_cons_zero, List.set_cons_succ, i64_w, i32_w]
        rfl
      refine done_ (by kernel_rfl) ?_

      go_wp2_with fail
      have HP := Aside0.mk hL6.sc.pl
      have HB := Aside0.mk hL6.sc.bel
      clear hL6 hL4 hb6
      refine (HA.out _ HP.out).mono ?_
      rintro e_ w7 ⟨i, rfl, hat, hb7⟩
      have HAT := Aside0.mk hat
      have HB7 := Aside0.mk hb7
      clear hat hb7
      cases hin : inn R n i with
      | true =>
        have HI := Aside0.mk hin
        clear hin
        go_wp2_with fail
        go_ret
        exact .inl ⟨HAT.out.inn_iff.1 HI.out, rfl, below_step HB.out HB7.out⟩
      | false =>
        have HI : Aside0 (¬ InR R n) := ⟨fun h => by have := HAT.out.inn_iff.2 h; rw [hin] at this; cases this⟩
        clear hin
        go_wp2_with fail
        refine (HL.out _ (HP.out.below HB7.out) HI.out).mono ?_
        rintro e_ w8 ⟨rfl, h8⟩
        have H8 := Aside0.mk h8
        clear h8
        go_wp2_with fail
        go_ret
        exact .inr ⟨HI.out, rfl, H8.out.after (below_step HB.out HB7.out)⟩
end Go.Proofs.Ytebnlhjakiipjaa.Pl

set_option linter.unusedVariables false
set_option linter.unusedSimpArgs false
namespace Go.Proofs.Ytebnlhjakiipjaa.Pl
open Go.RowKit Go.Maps Go.Proofs.YtebnlhjakiipjaaW.PrintWords Go.Proofs.YtebnlhjakiipjaaW.PrintMore Go.Proofs.YtebnlhjakiipjaaW.PrintLast Go.Proofs.Ytebnlhjakiipjaa.PPlf
theorem src_none {P : Program} (w : World) (size : Nat) (t e : TypeId) (ht : P.underlying t = some (.slice e)) (src : Option Addr) (c : Nat) : Src P size t (.slice src 0 c) 0 [] w := by
  refine ⟨.inl ⟨e, ht⟩, fun w' => ?_, ?_, ?_, by simp, fun u hu => by cases hu⟩
  · rfl
  · cases src <;> simp [Builtin.firstCells, loadCells, loadCellsFrom]
  · cases src <;> simp [Builtin.firstCells, loadCells, loadCellsFrom]
/-- any kind of element of several cells -/
theorem app_any (w : World) {base t e size bytes : Nat} {i : TypeInfo} {z : Value} (ht : Try.prog.underlying t = some (.slice e)) (hi : Try.prog.info? e = some i) (hz : i.zero = some z) (hs : i.size = size) (hby : i.bytes = bytes) (hzs : z.cells.size = size) (h0 : 0 < size)
    {v : Value} {n : Nat} {xs news : List Value} (hown : w.ownsRow base e size v n xs) (hb : base ≤ w.heap.size) (src : Option Addr) (m cc : Nat) (hm : news.length = m * size) (hsrc : m = 0 ∨ ∃ a, src = some a ∧ ∀ j u, news[j]? = some u → w.cell? (a.add j) = some u) (h1 : ∀ u ∈ news, u.oneCell' = true) (h63 : n + m ≤ maxLen) (hlen : (n + m) * bytes ≤ 140737488355328) :
    ∃ v' w', (Builtin.append_ #[t, t] t #[v, .slice src m cc]).run Try.prog w = .ok v' w' ∧ w'.ownsRow base e size v' (n + m) (xs ++ news) ∧ w.grownBy w' v.ownBlock ∧ (v'.ownBlock = v.ownBlock ∨ v'.ownBlock = some w.heap.size) := by
  by_cases hm0 : m = 0
  · subst hm0
    have hn : news = [] := List.eq_nil_of_length_eq_zero (by simpa using hm)
    subst hn
    rw [List.append_nil]
    have hg : w.grownBy w v.ownBlock := ⟨rfl, rfl, rfl, Nat.le_refl _, fun _ _ _ => rfl⟩
    rcases hown.2 with ⟨rfl, rfl⟩ | ⟨g, cap, cur, rfl, hbg, hh, hc, _⟩
    · exact ⟨_, w, run_append_nothing (P := Try.prog) w t t t e i ht hi none 0 0 (Nat.le_refl _) _ (src_none w i.size t e ht src cc), hown, hg, .inl rfl⟩
    · exact ⟨_, w, run_append_nothing (P := Try.prog) w t t t e i ht hi _ _ _ hc _ (src_none w i.size t e ht src cc), hown, hg, .inl rfl⟩
  · obtain ⟨a, rfl, hs2⟩ := hsrc.resolve_left hm0
    obtain ⟨v', w', h1, h2, h3, _, h5⟩ := run_append_own_at (P := Try.prog) w base t t e i z size bytes ht hi hz hs hby hzs h0 v n xs hown a m cc news hm hs2 h1 h63 hlen hb
    exact ⟨v', w', h1, h2, h3, h5⟩
theorem app_runs (w : World) {base : Nat} {v : Value} {A B : List Run} (hown : w.ownsRow base 81 2 v A.length (runC A)) (hb : base ≤ w.heap.size) (src : Option Addr) (cc : Nat) (hsrc : B = [] ∨ ∃ a, src = some a ∧ ∀ j u, (runC B)[j]? = some u → w.cell? (a.add j) = some u) (hlen : A.length + B.length ≤ 2199023255552) :
    ∃ v' w', (Builtin.append_ #[64, 64] 64 #[v, .slice src B.length cc]).run Try.prog w = .ok v' w' ∧ w'.ownsRow base 81 2 v' (A ++ B).length (runC (A ++ B)) ∧ w.grownBy w' v.ownBlock ∧ (v'.ownBlock = v.ownBlock ∨ v'.ownBlock = some w.heap.size) := by
  obtain ⟨i, hi, hzz⟩ := Option.map_eq_some_iff.1 info81
  simp only [Prod.mk.injEq] at hzz
  obtain ⟨hz, hs, hbb⟩ := hzz
  rw [List.length_append, runC_append]
  exact app_any w Try.underlying64 hi hz hs hbb rfl (by omega) hown hb src B.length cc (runC_length B) (hsrc.imp (fun h => by rw [h]; rfl) id) (runC_cells B) (by unfold maxLen; omega) (by omega)
end Go.Proofs.Ytebnlhjakiipjaa.Pl

set_option linter.unusedVariables false
set_option linter.unusedSimpArgs false
namespace Go.Proofs.Ytebnlhjakiipjaa.Pl
open Go.RowKit Go.Maps Go.WideMaps Go.MapKept Go.Proofs.YtebnlhjakiipjaaW.PrintWords Go.Proofs.YtebnlhjakiipjaaW.PrintMore Go.Proofs.YtebnlhjakiipjaaW.PrintLast Go.Proofs.Ytebnlhjakiipjaa.PPlf
set_option maxHeartbeats 4000000 in
set_option maxRecDepth 100000 in
theorem free_align (w : World) (b : Nat) (vk : Value) (bm : Nat) (vr : Value) (M : Pm) (R : List Run) (a l : Int) (hS : PlS w b vk bm vr M R) (ha0 : 0 ≤ a) (ha1 : a < 4294967296) (hn : ¬ sub M a l) :
    Calls Try.prog 18 #[.pointer (some ⟨b, 0, none⟩), .agg #[.int .u32 a, .int .i64 l]] w fun e w' => e = .returned (.int .i64 3) ∧ Below w.heap.size w w' := by
  have hB1 := below_alloc (Below.refl w.heap.size w) (.cells #[.int .u32 a, .int .i64 l] 27)
  have kb := heap_alloc_new w (.cells #[.int .u32 a, .int .i64 l] 27)
  have hSC := SC.mk_ (w0 := w) (hS.below hB1) (blk_cell kb 0) (blk_cell kb 1) (by rw [World.size_alloc]; omega) hB1
  have HSC := Aside0.mk hSC
  have hV := Aside0.mk (fun w => addr_Valid.calls 1 a l _ w (valid_all ha0 ha1 (Nat.le_refl 1)))
  have HN := Aside0.mk hn
  clear hSC kb hB1 hS hn
  by_cases hl : l = M.s
  · have hlb : (l != M.s) = false := by simp [hl]
    have hv : decide (vld a l) = false := decide_eq_false (fun h => HN.out ⟨hl, h⟩)
    rw [hv] at hV
    clear hv hl
    go_enter Try.func18, Try.ntmps18
    go_wp2_with fail
    go_region_held3 (SC w b vk bm vr M R w.heap.size a l)
      (first | assumption | (exact SC.keep hb4 (by assumption)) | (exact SC.drew (by assumption)) | (exact SC.drew HSC.out) | (exact HSC.out))
      ((go_at_call 29; refine (hV.out _).mono ?_; rintro e_ w4 ⟨rfl, hb4⟩))
    go_wp2_with fail
    go_ret
    exact ⟨rfl, SC.bel (w0 := w) (by assumption)⟩
  · have hlb : (l != M.s) = true := by simpa using hl
    have k2 := HSC.out.2.2.1
    have kp := HSC.out.2.2.2.2.2.2.2.1
    clear hl
    go_enter Try.func18, Try.ntmps18
    go_wp2_with fail
    go_quiet (fail)
    go_wp2_with fail
    go_ret
    exact ⟨rfl, pw_below_drewN HSC.out.bel _⟩
theorem one_app (w : World) {base : Nat} {v : Value} {A : List Run} (hown : w.ownsRow base 81 2 v A.length (runC A)) (hb : base ≤ w.heap.size) (x y : Int) (hlen : A.length ≤ 1099511627776) :
    ∃ v' w', (Builtin.append_ #[64, 64] 64 #[v, .slice (some ⟨w.heap.size, 0, none⟩) 1 1]).run Try.prog (w.alloc (.cells #[.int .i64 x, .int .i64 y] 81)) = .ok v' w' ∧ w'.ownsRow base 81 2 v' (A ++ [(x, y)]).length (runC (A ++ [(x, y)])) ∧ w.grownBy w' v.ownBlock ∧ (v'.ownBlock = v.ownBlock ∨ ∃ k, v'.ownBlock = some k ∧ w.heap.size ≤ k) := by
  obtain ⟨v', w', h1, h2, h3, h4⟩ := app_runs (w.alloc (.cells #[.int .i64 x, .int .i64 y] 81)) (B := [(x, y)]) (hown.alloc _) (by rw [World.size_alloc]; omega) (some ⟨w.heap.size, 0, none⟩) 1 (.inr ⟨_, rfl, World.news_of_block (cs := #[.int .i64 x, .int .i64 y]) (t := 81) (fr := (0, 0)) (heap_alloc_new w _)⟩) (by simp; omega)
  refine ⟨v', w', h1, h2, World.grownBy.trans (World.grownBy_alloc w _ _) ⟨h3.os, h3.tape, h3.output, h3.size, h3.block⟩, h4.imp id (fun e => ⟨_, e, by rw [World.size_alloc]; omega⟩)⟩
theorem grown_below {w w' : World} {v : Value} {B : Nat} (h : w.grownBy w' v.ownBlock) (hB : B ≤ w.heap.size) (hv : ∀ k, v.ownBlock = some k → B ≤ k) : Below B w w' :=
  ⟨h.os, h.tape, h.output, h.size, fun i hi => h.block i (by omega) (fun e => by have := hv i e.symm; omega)⟩
theorem own_ge {w : World} {base e s n : Nat} {v : Value} {xs : List Value} (h : w.ownsRow base e s v n xs) : ∀ k, v.ownBlock = some k → base ≤ k := fun k hk => by
  rcases h.2 with ⟨rfl, _⟩ | ⟨g, cap, cur, rfl, hb, _⟩
  · cases hk
  · have hk2 : some g = some k := hk
    injection hk2 with hk2; omega
theorem own_src {w : World} {base : Nat} {v : Value} {A : List Run} (h : w.ownsRow base 81 2 v A.length (runC A)) : ∃ s c, v = .slice s A.length c ∧ (A = [] ∨ ∃ a, s = some a ∧ ∀ j u, (runC A)[j]? = some u → w.cell? (a.add j) = some u) := by
  obtain ⟨s, c, rfl⟩ := own_slice h
  refine ⟨s, c, rfl, ?_⟩
  rcases Nat.eq_zero_or_pos A.length with h0 | h0
  · exact .inl (List.eq_nil_of_length_eq_zero h0)
  · obtain ⟨g, cap, e, _, _⟩ := h.form h0
    injection e with e1 e2 e3
    subst e1
    exact .inr ⟨_, rfl, fun j u hj => h.cells (g := g) rfl j u hj⟩
def FreePost (w : World) (b : Nat) (vk : Value) (bm : Nat) (vr : Value) (M : Pm) (R : List Run) (n : Int) (e : Ending) (w' : World) : Prop :=
  (¬ InR R n ∧ e = .returned (.int .i64 3) ∧ Below w.heap.size w w') ∨ (InR R n ∧ e = .returned (.int .i64 0) ∧ ∃ vr' R', PlS w' b vk bm vr' M R' ∧ (∀ x, InR R' x ↔ InR R x ∧ x ≠ n) ∧ Turn w w' (b :: vr.ownBlock.toList) ∧ NB vr vr' w)
theorem row_take {w : World} {g c : Nat} {R : List Run} (h : w.ownsRow 0 81 2 (.slice (some ⟨g, 0, none⟩) R.length c) R.length (runC R)) (i : Nat) : ∀ j u, (runC (R.take i))[j]? = some u → w.cell? ((⟨g, 0, none⟩ : Addr).add j) = some u := fun j u hj => by
  refine h.cells (g := g) rfl j u ?_
  rw [← runC_take, List.getElem?_take] at hj
  split at hj
  · exact hj
  · cases hj
theorem row_drop {w : World} {g c : Nat} {R : List Run} (h : w.ownsRow 0 81 2 (.slice (some ⟨g, 0, none⟩) R.length c) R.length (runC R)) {off k : Nat} (hoff : off = k * 2 ∨ R.length = k) : ∀ j u, (runC (R.drop k))[j]? = some u → w.cell? ((⟨g, off, none⟩ : Addr).add j) = some u := fun j u hj => by
  rcases hoff with rfl | hd
  · rw [← runC_drop, List.getElem?_drop] at hj
    have h8 := h.cells (g := g) rfl _ _ hj
    rw [add_plain] at h8
    have key : (⟨g, k * 2, none⟩ : Addr).add j = ⟨g, k * 2 + j, none⟩ := by
      unfold Addr.add
      split <;> simp_all
    rw [key]; exact h8
  · rw [List.drop_eq_nil_of_le (by omega)] at hj; simp [runC] at hj
theorem ownsRow_base {w : World} {base e size n : Nat} {v : Value} {xs : List Value} (h : w.ownsRow base e size v n xs) : w.ownsRow 0 e size v n xs := by
  obtain ⟨h1, h2⟩ := h
  refine ⟨h1, ?_⟩
  rcases h2 with h2 | ⟨g, cap, cur, h3, h4, h5⟩
  · exact .inl h2
  · exact .inr ⟨g, cap, cur, h3, Nat.zero_le _, h5⟩
set_option maxHeartbeats 8000000 in
set_option maxRecDepth 100000 in
theorem free_sub (w : World) (b : Nat) (vk : Value) (bm : Nat) (vr : Value) (M : Pm) (R : List Run) (a l : Int) (hok : M.Ok) (hR : Rng M R) (hS : PlS w b vk bm vr M R) (ha0 : 0 ≤ a) (ha1 : a < 4294967296) (hn : sub M a l) :
    Calls Try.prog 18 #[.pointer (some ⟨b, 0, none⟩), .agg #[.int .u32 a, .int .i64 l]] w fun e w' => FreePost w b vk bm vr M R (a / sizeF M.s) e w' := by
  have hB1 := below_alloc (Below.refl w.heap.size w) (.cells #[.int .u32 a, .int .i64 l] 27)
  have kb := heap_alloc_new w (.cells #[.int .u32 a, .int .i64 l] 27)
  have hSC := SC.mk_ (w0 := w) (hS.below hB1) (blk_cell kb 0) (blk_cell kb 1) (by rw [World.size_alloc]; omega) hB1
  have HSC := Aside0.mk hSC
  have hV := Aside0.mk (fun w => addr_Valid.calls 1 a l _ w (valid_all ha0 ha1 (Nat.le_refl 1)))
  have hN := Aside0.mk (fun w hb => number28 w b M.s a hb hok.s0 hok.s1 ha0 ha1)
  obtain ⟨hl, hv⟩ := hn
  have hlb : (l != M.s) = false := by simp [hl]
  rw [decide_eq_true hv] at hV
  have hr := div_rng hok.s0 hok.s1 ha0 ha1
  obtain ⟨n, hnn⟩ : ∃ n, n = a / sizeF M.s := ⟨_, rfl⟩
  rw [← hnn] at hr hN ⊢
  have HA := Aside0.mk (fun w h => at37 w b vk bm vr M R n h)
  have HLEN := Aside0.mk (hR.len hok hS.wf)
  clear hSC kb hB1 hS hnn hl hv hok hR
  go_enter Try.func18, Try.ntmps18
  go_wp2_with fail
  go_region_held3 (SC w b vk bm vr M R w.heap.size a l)
      (first | assumption | (exact SC.keep hb4 (by assumption)) | (exact SC.drew (by assumption)) | (exact SC.drew HSC.out) | (exact HSC.out))
      ((go_at_call 29; refine (hV.out _).mono ?_; rintro e_ w4 ⟨rfl, hb4⟩))
  have hS1 := Aside0.mk (by assumption : SC w b vk bm vr M R w.heap.size a l w4)
  have k2 := hS1.out.2.2.1
  have kp := hS1.out.2.2.2.2.2.2.1
  go_wp2_with fail
  refine (hN.out _ k2).mono ?_
  rintro e_ w5 ⟨rfl, rfl⟩
  clear k2 kp hV hlb HSC hN
  have HP := Aside0.mk hS1.out.pl
  have HB := Aside0.mk hS1.out.bel
  clear hS1
  go_wp2_with fail
  refine (HA.out _ HP.out).mono ?_
  rintro e_ w7 ⟨i, rfl, hat, hb7⟩
  have HAT := Aside0.mk hat
  have HP7 := Aside0.mk (HP.out.below hb7)
  have HB7 := Aside0.mk (below_step HB.out hb7)
  clear hat hb7 HB HP HA
  cases hin : inn R n i with
  | false =>
    have HI : Aside0 (¬ InR R n) := ⟨fun h => by have := HAT.out.inn_iff.2 h; rw [hin] at this; cases this⟩
    clear hin
    go_wp2_with fail
    go_ret
    exact .inl ⟨HI.out, rfl, HB7.out⟩
  | true =>
    have HI := Aside0.mk (HAT.out.inn_iff.1 hin)
    have HI := Aside0.mk (HAT.out.inn_iff.1 hin)
    have HI := Aside0.mk (HAT.out.inn_iff.1 hin)
    have HI := Aside0.mk (HAT.out.inn_iff.1 hin)
    have HI := Aside0.mk (HAT.out.inn_iff.1 hin)
    have HI := Aside0.mk (HAT.out.inn_iff.1 hin)
    have HI := Aside0.mk (HAT.out.inn_iff.1 hin)
    have hin2 := hin
    simp only [inn, Bool.and_eq_true, decide_eq_true_eq] at hin2
    obtain ⟨hi, hfn⟩ := hin2
    obtain ⟨g, c, rfl, kb, k1, k2, f1, f2⟩ := HP7.out.run (i := i) hi
    have hii : (i : Int) < (R.length : Int) := by omega
    obtain ⟨f, hf⟩ : ∃ f, f = (R.getD i (0, 0)).1 := ⟨_, rfl⟩
    obtain ⟨t, ht⟩ : ∃ t, t = (R.getD i (0, 0)).2 := ⟨_, rfl⟩
    rw [← hf] at k1 hfn
    rw [← ht] at k2
    have HFT := Aside0.mk (And.intro hf ht)
    have HI2 := Aside0.mk hi
    clear hin hi hf ht f1 f2
    go_upto_region 9 with fail
    have k8 := heap_alloc_new w7 (.cells #[.int .i64 f, .int .i64 t] 81)
    have kf := blk_cell k8 0
    have kt := blk_cell k8 1
    have hb8 := below_alloc (Below.refl w7.heap.size w7) (.cells #[.int .i64 f, .int .i64 t] 81)
    have hlt8 : w7.heap.size < (w7.alloc (.cells #[.int .i64 f, .int .i64 t] 81)).heap.size := by rw [World.size_alloc]; omega
    have HP8 := Aside0.mk (HP7.out.below hb8)
    have HB8 := Aside0.mk (below_step HB7.out hb8)
    clear k8 hb8 k1 k2 kb HP7 HB7
    generalize w7.alloc (.cells #[.int .i64 f, .int .i64 t] 81) = w8 at *
    generalize hp8 : w7.heap.size = p8 at *
    clear hp8
    have HLT := Aside0.mk hlt8
    clear hlt8
    have hwm : IntKind.i64.wrap (n - 1) = n - 1 := by simp [IntKind.wrap, IntKind.bits, IntKind.signed]; omega
    have hwp : IntKind.i64.wrap (n + 1) = n + 1 := by simp [IntKind.wrap, IntKind.bits, IntKind.signed]; omega
    obtain ⟨v1, w9, r1, o1, g1, l1⟩ := one_app w8 (base := w8.heap.size) (v := .slice none 0 0) (A := []) (World.ownsRow_nil _ _ _ _) (Nat.le_refl _) f (n - 1) (by simp)
    have R1 := Aside0.mk r1
    have O1 := Aside0.mk o1
    have B1 := Aside0.mk (grown_below (B := w8.heap.size) g1 (Nat.le_refl _) (fun k hk => by cases hk))
    clear r1 o1 g1 l1
    go_upto_if 44 with (fail)
    go_cut [9] (fun v wx => ∃ X : List Run, X = (if f < n then [(f, n - 1)] else []) ∧ Aside0 (wx.ownsRow w8.heap.size 81 2 v X.length (runC X)) ∧ Aside0 (Below w8.heap.size w8 wx))
    case first =>
      by_cases hc : f < n
      · go_wp2_with ((with_reducible refine gate_builtin (b := .append) (xs := #[.tmp 45, .tmp 51]) rfl ?_); at_builtin; refine wpList_append_run rfl (.tmp 45) (.tmp 51) 64 rfl rfl rfl R1.out ?_)
        go_meet
        exact ⟨[(f, n - 1)], by rw [if_pos hc], ⟨O1.out⟩, B1⟩
      · have hcb : decide (f < n) = false := decide_eq_false hc
        go_wp2_with fail
        go_meet
        exact ⟨[], by rw [if_neg (by omega)], ⟨World.ownsRow_nil _ _ _ _⟩, ⟨Below.refl _ _⟩⟩
    case rest =>
      obtain ⟨X, hX, O2, B2⟩ := hcut
      have kt2 : wc.cell? ⟨p8, 1, none⟩ = some (.int .i64 t) := (B2.out.cell (p := ⟨p8, 1, none⟩) HLT.out).trans kt
      obtain ⟨v2, w11, r2, o2, g2, l2⟩ := one_app wc O2.out B2.out.size (n + 1) t (by rw [hX]; split <;> simp)
      have R2 := Aside0.mk r2
      have O3 := Aside0.mk o2
      have B3 := Aside0.mk (B2.out.trans (grown_below (B := w8.heap.size) g2 B2.out.size (own_ge O2.out)))
      have HX := Aside0.mk hX
      clear r2 o2 g2 l2 hX B1 O1 R1 kf kt hwm
      go_upto_if 56 with (fail)
      go_cut [9] (fun v wx => ∃ X : List Run, X = cutR (f, t) n ∧ Aside0 (wx.ownsRow w8.heap.size 81 2 v X.length (runC X)) ∧ Aside0 (Below w8.heap.size w8 wx))
      case first =>
        by_cases hc : n < t
        · go_wp2_with ((with_reducible refine gate_builtin (b := .append) (xs := #[.tmp 57, .tmp 63]) rfl ?_); at_builtin; refine wpList_append_run rfl (.tmp 57) (.tmp 63) 64 rfl rfl rfl R2.out ?_)
          go_meet
          exact ⟨X ++ [(n + 1, t)], by rw [HX.out]; unfold cutR; rw [if_pos hc], O3, B3⟩
        · have hcb : decide (n < t) = false := decide_eq_false hc
          go_wp2_with fail
          go_meet
          exact ⟨X, by rw [HX.out]; unfold cutR; rw [if_neg (show ¬ n < (f, t).2 from by show ¬ n < t; omega), List.append_nil], O2, B2⟩
      case rest =>
        obtain ⟨X2, hX2, O5, B5⟩ := hcut
        clear R2 O3 B3 HX B2 kt2 O2 hwp
        have hi3 := HI2.out
        have HPc := Aside0.mk (HP8.out.below B5.out)
        obtain ⟨v3, w1, r3, o3, g3, l3⟩ := app_runs wc.drew (base := wc.heap.size) (v := .slice none 0 0) (A := []) (B := R.take i) (World.ownsRow_nil _ _ _ _) (Nat.le_refl _) (some ⟨g, 0, none⟩) c (.inr ⟨_, rfl, row_take HPc.out.rr i⟩) (by have := HLEN.out; rw [List.length_take]; simp; omega)
        rw [List.nil_append] at o3
        rw [List.length_take, Nat.min_eq_left (by omega)] at r3
        have b3 : Below wc.heap.size wc w1 := (Below.refl wc.heap.size wc).drew.trans (grown_below (w := wc.drew) g3 (Nat.le_refl _) (fun k hk => by cases hk))
        obtain ⟨sX, cX, hv, hsX⟩ := own_src (own_move O5.out (fun k hk => b3.block k (own_lt O5.out k hk)))
        subst hv
        obtain ⟨v4, w2, r4, o4, g4, l4⟩ := app_runs w1 o3 b3.size sX cX hsX (by have := HLEN.out; rw [List.length_take, hX2]; unfold cutR; split <;> split <;> simp <;> omega)
        have b4 : Below wc.heap.size wc w2 := b3.trans (grown_below g4 b3.size (own_ge o3))
        obtain ⟨off, hoff⟩ : ∃ off : Nat, (if c = i + 1 then (some (⟨g, 0, none⟩ : Addr)) else some ⟨g, (i + 1) * 2, none⟩) = some ⟨g, off, none⟩ ∧ (off = (i + 1) * 2 ∨ R.length = i + 1) := by
          have hcl : R.length ≤ c := own_cap HPc.out.rr
          by_cases hc2 : c = i + 1
          · exact ⟨0, if_pos hc2, .inr (by omega)⟩
          · exact ⟨_, if_neg hc2, .inl rfl⟩
        obtain ⟨v5, w3, r5, o5, g5, l5⟩ := app_runs w2 o4 b4.size (some ⟨g, off, none⟩) (c - (i + 1)) (B := R.drop (i + 1)) (.inr ⟨_, rfl, row_drop (HPc.out.below b4).rr hoff.2⟩) (by have := HLEN.out; rw [List.length_append, List.length_take, List.length_drop, hX2]; unfold cutR; split <;> split <;> simp <;> omega)
        rw [List.length_drop] at r5
        have b5 : Below wc.heap.size wc w3 := b4.trans (grown_below g5 b4.size (own_ge o4))
        obtain ⟨s5, c5, rfl⟩ := own_slice o5
        obtain ⟨m5, hm5⟩ : ∃ m, m = (R.take i ++ X2 ++ R.drop (i + 1)).length := ⟨_, rfl⟩
        rw [← hm5] at r5 o5
        have HM5 := Aside0.mk hm5
        clear hm5
        have kb := blk_cell HPc.out.blk 7
        have kbD : wc.drew.cell? ⟨b, 7, none⟩ = some (.slice (some ⟨g, 0, none⟩) R.length c) := kb
        have hb1 := blk_below HPc.out.blk b3
        have hb2 := blk_below HPc.out.blk b4
        have hb3 := blk_below HPc.out.blk b5
        have kb1 : w1.cell? ⟨b, 7, none⟩ = some (.slice (some ⟨g, 0, none⟩) R.length c) := blk_cell hb1 7
        have kb2 : w2.cell? ⟨b, 7, none⟩ = some (.slice (some ⟨g, 0, none⟩) R.length c) := blk_cell hb2 7
        have kb3 : w3.cell? ⟨b, 7, none⟩ = some (.slice (some ⟨g, 0, none⟩) R.length c) := blk_cell hb3 7
        have kf3 : w3.frozen? ⟨b, 7, none⟩ = false := blk_frozen hb3 7
        have HB3 := Aside0.mk hb3
        have B6 := Aside0.mk (show Below w8.heap.size w8 w3 from B5.out.trans (b5.mono B5.out.size))
        have O6 := Aside0.mk (show w3.ownsRow 0 81 2 (.slice s5 _ c5) _ _ from ownsRow_base o5)
        have HG5 := Aside0.mk (own_ge o5)
        have R1 := Aside0.mk r3
        have R2 := Aside0.mk r4
        have R3 := Aside0.mk r5
        have HX2 := Aside0.mk hX2
        have hif := hoff.1
        have hcl : R.length ≤ c := own_cap HPc.out.rr
        have hi1 : (i : Int) ≤ (R.length : Int) := by omega
        have hi2 : (i : Int) + 1 ≤ (R.length : Int) := by omega
        have hi0 : 0 ≤ (i : Int) + 1 := by omega
        have hi4 : (i : Int) ≤ (c : Int) := by omega
        have hw6 : wrap64 ((i : Int) + 1) = (i : Int) + 1 := by have := HLEN.out; unfold wrap64; omega
        have hw7 : IntKind.i64.wrap ((i : Int) + 1) = (i : Int) + 1 := by have := HLEN.out; simp [IntKind.wrap, IntKind.bits, IntKind.signed]; omega
        clear r3 o3 g3 l3 b3 r4 o4 g4 l4 b4 r5 o5 g5 l5 b5 hsX hX2 hoff hb1 hb2 hb3
        go_upto_region 13 with fail
        refine start_ (n := 21) (S := fun w' => w'.cell? ⟨b, 7, none⟩ = some (.slice (some ⟨g, 0, none⟩) R.length c)) (ds := [20]) #[false, false, false, false, false, false, false, false, false, false, false, false, false, false, false, false, false, false, false, false, false] (by kernel_rfl) rfl rfl (kbD) (fun hHeld => ?_)
        refine pure_ (i := 0) (N := some 65) (v := ?_) (a' := ?_) #[true, false, false, false, false, false, false, false, false, false, false, false, false, false, false, false, false, false, false, false, false] rfl rfl (by kernel_rfl) (fun _ _ _ h => h) (Or.inl ⟨by rfl, ?_⟩) ?_ ?_
        rotate_left
        · intro w'
          go_simp
          with_reducible rfl
        rotate_left
        · simp only [Act.put, List.setIfInBounds_toArray, List.set_cons_zero, List.set_cons_succ, i64_w, i32_w]
          rfl
        refine pure_ (i := 1) (N := some 66) (v := ?_) (a' := ?_) #[true, true, false, false, false, false, false, false, false, false, false, false, false, false, false, false, false, false, false, false, false] rfl rfl (by kernel_rfl) (fun _ _ _ h => h) (Or.inl ⟨by rfl, ?_⟩) ?_ ?_
        rotate_left
        · intro w'
          go_simp
          with_reducible rfl
        rotate_left
        · simp only [Act.put, List.setIfInBounds_toArray, List.set_cons_zero, List.set_cons_succ, i64_w, i32_w]
          rfl
        refine pure_ (i := 2) (N := some 67) (v := ?_) (a' := ?_) #[true, true, true, false, false, false, false, false, false, false, false, false, false, false, false, false, false, false, false, false, false] rfl rfl (by kernel_rfl) (fun _ _ _ h => h) (Or.inl ⟨by rfl, ?_⟩) ?_ ?_
        rotate_left
        · intro w'
          go_simp
          with_reducible rfl
        rotate_left
        · simp only [Act.put, List.setIfInBounds_toArray, List.set_cons_zero, List.set_cons_succ, i64_w, i32_w]
          rfl
        refine pure_ (i := 3) (N := some 68) (v := ?_) (a' := ?_) #[true, true, true, true, false, false, false, false, false, false, false, false, false, false, false, false, false, false, false, false, false] rfl rfl (by kernel_rfl) (fun _ _ _ h => h) (Or.inl ⟨by rfl, ?_⟩) ?_ ?_
        rotate_left
        · intro w'
          go_simp
          with_reducible rfl
        rotate_left
        · simp only [Act.put, List.setIfInBounds_toArray, List.set_cons_zero, List.set_cons_succ, i64_w, i32_w]
          rfl
        refine pure_ (i := 5) (N := some 70) (v := ?_) (a' := ?_) #[true, true, true, true, false, true, false, false, false, false, false, false, false, false, false, false, false, false, false, false, false] rfl rfl (by kernel_rfl) (fun _ _ _ h => h) (Or.inl ⟨by rfl, ?_⟩) ?_ ?_
        rotate_left
        · intro w'
          go_simp
          with_reducible rfl
        rotate_left
        · simp only [Act.put, List.setIfInBounds_toArray, List.set_cons_zero, List.set_cons_succ, i64_w, i32_w]
          rfl
        refine pure_ (i := 8) (N := some 73) (v := ?_) (a' := ?_) #[true, true, true, true, false, true, false, false, true, false, false, false, false, false, false, false, false, false, false, false, false] rfl rfl (by kernel_rfl) (fun _ _ _ h => h) (Or.inl ⟨by rfl, ?_⟩) ?_ ?_
        rotate_left
        · intro w'
          go_simp
          with_reducible rfl
        rotate_left
        · simp only [Act.put, List.setIfInBounds_toArray, List.set_cons_zero, List.set_cons_succ, i64_w, i32_w]
          rfl
        refine pure_ (i := 10) (N := some 75) (v := ?_) (a' := ?_) #[true, true, true, true, false, true, false, false, true, false, true, false, false, false, false, false, false, false, false, false, false] rfl rfl (by kernel_rfl) (fun _ _ _ h => h) (Or.inl ⟨by rfl, ?_⟩) ?_ ?_
        rotate_left
        · intro w'
          go_simp
          with_reducible rfl
        rotate_left
        · simp only [Act.put, List.setIfInBounds_toArray, List.set_cons_zero, List.set_cons_succ, i64_w, i32_w]
          rfl
        refine pure_ (i := 11) (N := some 76) (v := ?_) (a' := ?_) #[true, true, true, true, false, true, false, false, true, false, true, true, false, false, false, false, false, false, false, false, false] rfl rfl (by kernel_rfl) (fun _ _ _ h => h) (Or.inl ⟨by rfl, ?_⟩) ?_ ?_
        rotate_left
        · intro w'
          go_simp
          with_reducible rfl
        rotate_left
        · simp only [Act.put, List.setIfInBounds_toArray, List.set_cons_zero, List.set_cons_succ, i64_w, i32_w]
          rfl
        refine pure_ (i := 12) (N := some 77) (v := ?_) (a' := ?_) #[true, true, true, true, false, true, false, false, true, false, true, true, true, false, false, false, false, false, false, false, false] rfl rfl (by kernel_rfl) (fun _ _ _ h => h) (Or.inl ⟨by rfl, ?_⟩) ?_ ?_
        rotate_left
        · intro w'
          go_simp
          with_reducible rfl
        rotate_left
        · simp only [Act.put, List.setIfInBounds_toArray, List.set_cons_zero, List.set_cons_succ, i64_w, i32_w]
          rfl
        refine pure_ (i := 14) (N := some 79) (v := ?_) (a' := ?_) #[true, true, true, true, false, true, false, false, true, false, true, true, true, false, true, false, false, false, false, false, false] rfl rfl (by kernel_rfl) (fun _ _ _ h => h) (Or.inl ⟨by rfl, ?_⟩) ?_ ?_
        rotate_left
        · intro w'
          go_simp
          with_reducible rfl
        rotate_left
        · simp only [Act.put, List.setIfInBounds_toArray, List.set_cons_zero, List.set_cons_succ, i64_w, i32_w]
          rfl
        refine pure_ (i := 15) (N := some 80) (v := ?_) (a' := ?_) #[true, true, true, true, false, true, false, false, true, false, true, true, true, false, true, true, false, false, false, false, false] rfl rfl (by kernel_rfl) (fun _ _ _ h => h) (Or.inl ⟨by rfl, ?_⟩) ?_ ?_
        rotate_left
        · intro w'
          go_simp
          with_reducible rfl
        rotate_left
        · simp only [Act.put, List.setIfInBounds_toArray, List.set_cons_zero, List.set_cons_succ, i64_w, i32_w]
          rfl
        refine take_ (i := 4) (N := some 69) (v := ?_) (a' := ?_) #[true, true, true, true, true, true, false, false, true, false, true, true, true, false, true, true, false, false, false, false, false] rfl rfl (by kernel_rfl) (fun _ _ _ h => h) (Or.inl ⟨by rfl, ?_⟩) hHeld ?_ ?_
        rotate_left
        · intro w' s0
          go_simp
          with_reducible rfl
        rotate_left
        · simp only [Act.put, List.setIfInBounds_toArray, List.set_cons_zero, List.set_cons_succ, i64_w, i32_w]
          rfl
        refine pure_ (i := 6) (N := some 71) (v := ?_) (a' := ?_) #[true, true, true, true, true, true, true, false, true, false, true, true, true, false, true, true, false, false, false, false, false] rfl rfl (by kernel_rfl) (fun _ _ _ h => h) (Or.inl ⟨by rfl, ?_⟩) ?_ ?_
        rotate_left
        · intro w'
          go_simp
          with_reducible rfl
        rotate_left
        · simp only [Act.put, List.setIfInBounds_toArray, List.set_cons_zero, List.set_cons_succ, i64_w, i32_w]
          rfl
        refine take_ (i := 13) (N := some 78) (v := ?_) (a' := ?_) #[true, true, true, true, true, true, true, false, true, false, true, true, true, true, true, true, false, false, false, false, false] rfl rfl (by kernel_rfl) (fun _ _ _ h => h) (Or.inl ⟨by rfl, ?_⟩) hHeld ?_ ?_
        rotate_left
        · intro w' s0
          go_simp
          with_reducible rfl
        rotate_left
        · simp only [Act.put, List.setIfInBounds_toArray, List.set_cons_zero, List.set_cons_succ, i64_w, i32_w]
          rfl
        refine pure_ (i := 16) (N := some 81) (v := ?_) (a' := ?_) #[true, true, true, true, true, true, true, false, true, false, true, true, true, true, true, true, true, false, false, false, false] rfl rfl (by kernel_rfl) (fun _ _ _ h => h) (Or.inl ⟨by rfl, ?_⟩) ?_ ?_
        rotate_left
        · intro w'
          go_simp
          with_reducible rfl
        rotate_left
        · simp only [Act.put, List.setIfInBounds_toArray, List.set_cons_zero, List.set_cons_succ, i64_w, i32_w]
          rfl
        refine one_ (i := 7) (N := some 72) #[true, true, true, true, true, true, true, true, true, false, true, true, true, true, true, true, true, false, false, false, false] rfl rfl (by kernel_rfl) (by decide) (fun K hK => ?_)
        refine step_append_run rfl (.const (Value.slice none 0 0)) (.tmp 71) 64 rfl (by rfl) (by rfl) R1.out ?_
        refine hK.out _ _ (kb1) (fun hHeld => ?_)
        clear hK K
        refine norm_ (a' := ?_) ?_ ?_
        rotate_left
        · show Act.put _ (some 72) _ = _
          simp only [Act.put, List.setIfInBounds_toArray, List.set_cons_zero, List.set_cons_succ, i64_w, i32_w]
          rfl
        refine one_ (i := 9) (N := some 74) #[true, true, true, true, true, true, true, true, true, true, true, true, true, true, true, true, true, false, false, false, false] rfl rfl (by kernel_rfl) (by decide) (fun K hK => ?_)
        refine step_append_run rfl (.tmp 72) (.tmp 73) 64 rfl (by rfl) (by rfl) R2.out ?_
        refine hK.out _ _ (kb2) (fun hHeld => ?_)
        clear hK K
        refine norm_ (a' := ?_) ?_ ?_
        rotate_left
        · show Act.put _ (some 74) _ = _
          simp only [Act.put, List.setIfInBounds_toArray, List.set_cons_zero, List.set_cons_succ, i64_w, i32_w]
          rfl
        refine one_ (i := 17) (N := some 82) #[true, true, true, true, true, true, true, true, true, true, true, true, true, true, true, true, true, true, false, false, false] rfl rfl (by kernel_rfl) (by decide) (fun K hK => ?_)
        refine step_append_run rfl (.tmp 74) (.tmp 81) 64 rfl (by rfl) (by rfl) R3.out ?_
        refine hK.out _ _ (kb3) (fun hHeld => ?_)
        clear hK K
        refine norm_ (a' := ?_) ?_ ?_
        rotate_left
        · show Act.put _ (some 82) _ = _
          simp only [Act.put, List.setIfInBounds_toArray, List.set_cons_zero, List.set_cons_succ, i64_w, i32_w]
          rfl
        refine pure_ (i := 18) (N := some 83) (v := ?_) (a' := ?_) #[true, true, true, true, true, true, true, true, true, true, true, true, true, true, true, true, true, true, true, false, false] rfl rfl (by kernel_rfl) (fun _ _ _ h => h) (Or.inl ⟨by rfl, ?_⟩) ?_ ?_
        rotate_left
        · intro w'
          go_simp
          with_reducible rfl
        rotate_left
        · simp only [Act.put, List.setIfInBounds_toArray, List.set_cons_zero, List.set_cons_succ, i64_w, i32_w]
          rfl
        refine pure_ (i := 19) (N := some 84) (v := ?_) (a' := ?_) #[true, true, true, true, true, true, true, true, true, true, true, true, true, true, true, true, true, true, true, true, false] rfl rfl (by kernel_rfl) (fun _ _ _ h => h) (Or.inl ⟨by rfl, ?_⟩) ?_ ?_
        rotate_left
        · intro w'
          go_simp
          with_reducible rfl
        rotate_left
        · simp only [Act.put, List.setIfInBounds_toArray, List.set_cons_zero, List.set_cons_succ, i64_w, i32_w]
          rfl
        refine last_ (i := 20) (N := none) #[true, true, true, true, true, true, true, true, true, true, true, true, true, true, true, true, true, true, true, true, true] rfl rfl (by kernel_rfl) (by decide) (fun K hK => ?_)
        refine skip_ (w1 := ?_) (by rfl) rfl ?_ ?_
        rotate_left
        · go_simp
          rfl
        refine hK.out _ _ ?_
        clear hK K
        refine done_ (by kernel_rfl) ?_

        go_wp2_with fail
        go_ret
        have hm5 := HM5.out
        subst hm5
        have hsp : R.drop i = (f, t) :: R.drop (i + 1) := by
          rw [List.drop_eq_getElem_cons HI2.out, HFT.out.1, HFT.out.2, List.getD_eq_getElem?_getD, List.getElem?_eq_getElem HI2.out]; rfl
        have hpart := HAT.out.part
        rw [hsp] at hpart
        obtain ⟨hwf, hin⟩ := free_cut hpart (by have := hfn; exact this)
        have hRR : R.take i ++ (f, t) :: R.drop (i + 1) = R := by rw [← hsp, List.take_append_drop]
        rw [hRR] at hin
        rw [← HX2.out, ← List.append_assoc] at hwf hin
        have hlen : (R.take i ++ X2 ++ R.drop (i + 1)).length ≤ R.length + 1 := by
          rw [List.length_append, List.length_append, List.length_take, List.length_drop, HX2.out]
          have := HI2.out
          unfold cutR; split <;> split <;> simp <;> omega
        have hT : Turn w8 (w3.setCell ⟨b, 7, none⟩ (.slice s5 (R.take i ++ X2 ++ R.drop (i + 1)).length c5)) (b :: (Value.slice (some ⟨g, 0, none⟩) R.length c).ownBlock.toList) := (Turn.of_below B6.out _).set (p := ⟨b, 7, none⟩) (.inl List.mem_cons_self) _
        have hbb := blk_put HB3.out 7 (.slice s5 (R.take i ++ X2 ++ R.drop (i + 1)).length c5) rfl
        have hne : ∀ k, (Value.slice s5 (R.take i ++ X2 ++ R.drop (i + 1)).length c5).ownBlock = some k → k ≠ b := fun k hk e => by
          have := HG5.out k hk
          have := blk_lt HP8.out.blk
          have := B5.out.size
          omega
        have hrow : (w3.setCell ⟨b, 7, none⟩ (.slice s5 (R.take i ++ X2 ++ R.drop (i + 1)).length c5)).ownsRow 0 81 2 (.slice s5 (R.take i ++ X2 ++ R.drop (i + 1)).length c5) (R.take i ++ X2 ++ R.drop (i + 1)).length (runC (R.take i ++ X2 ++ R.drop (i + 1))) := own_move O6.out (fun k hk => Below.heap_setCell w3 ⟨b, 7, none⟩ _ k (hne k hk))
        have hF := HP8.out.anew hT hbb hrow hwf (by have := HLEN.out; omega)
        refine .inr ⟨HI.out, rfl, .slice s5 (R.take i ++ X2 ++ R.drop (i + 1)).length c5, R.take i ++ X2 ++ R.drop (i + 1), ?_, hin, ?_, fun k hk => .inr (by have := HG5.out k hk; have := B5.out.size; have := HB8.out.size; omega)⟩
        · exact hF
        · exact (Turn.of_below HB8.out _).trans hT (fun k hk => .inl hk)
end Go.Proofs.Ytebnlhjakiipjaa.Pl
