-- written by xp.sh, a program of this seat's session
import Derived.Test.YtncpcjphljfcpaaPNmmx0
import Derived.Test.YtncpcjphljfcpaaPNmmx3
namespace Go.Proofs.Ytncpcjphljfcpaa.PNmm
open Go.RowKit Go.Proofs.YtncpcjphljfcpaaW.PrintWords Go.Proofs.YtncpcjphljfcpaaW.PrintLast Go.Proofs.YtncpcjphljfcpaaW.PrintMore
attribute [local go_sem] max2_int min2_int max_two min_two max_three min_three max_four min_four   -- for this text's walks alone
set_option linter.unusedVariables false
set_option linter.unusedSimpArgs false

/-! ### weftref1_covered: function 32 -/
mutual
def weftref1_covered.j0 : Nat → List (S32) → Int → Int → Int → Int → Int → Bool → Option ((List (S32)))
  | 0, _, _, _, _, _, _, _ => none
  | k + 1, x0, x1, x2, x3, x4, x11, x25 => if x25 = true then (some x0) else (if x3 ≤ x1 then (weftref1_covered.j1 k x0 x1 x2 x3 x4 (decide (x11 ≤ x4))) else (weftref1_covered.j1 k x0 x1 x2 x3 x4 false))
def weftref1_covered.j1 : Nat → List (S32) → Int → Int → Int → Int → Bool → Option ((List (S32)))
  | 0, _, _, _, _, _, _ => none
  | k + 1, x0, x1, x2, x3, x4, x34 => if x34 = true then (if x0.length < 8796093022208 then (some (x0 ++ [(⟨(x1) % 4294967296, x2⟩ : S32)])) else (none)) else ((weftref1_size.f k (wrap64 (x2 + 1))).bind fun t132 => ((weftref1_covered.f k x0 x1 (wrap64 (x2 + 1)) x3 x4).bind fun t133 => ((weftref1_covered.f k t133 (wrap64 (x1 + t132)) (wrap64 (x2 + 1)) x3 x4).bind fun t136 => (some t136))))
def weftref1_covered.f : Nat → List (S32) → Int → Int → Int → Int → Option ((List (S32)))
  | 0, _, _, _, _, _ => none
  | k + 1, l0, a1, a2, a3, a4 => (weftref1_size.f k a2).bind fun t128 => (if a3 > (wrap64 ((wrap64 (a1 + t128)) - 1)) then (weftref1_covered.j0 k l0 a1 a2 a3 a4 (wrap64 ((wrap64 (a1 + t128)) - 1)) true) else (weftref1_covered.j0 k l0 a1 a2 a3 a4 (wrap64 ((wrap64 (a1 + t128)) - 1)) (decide (a4 < a1))))
end
theorem weftref1_covered.mono_l : ∀ k, (∀ y0 y1 y2 y3 y4, LeO (weftref1_covered.f k y0 y1 y2 y3 y4) (weftref1_covered.f (k + 1) y0 y1 y2 y3 y4)) ∧ (∀ y0 y1 y2 y3 y4 y5 y6, LeO (weftref1_covered.j0 k y0 y1 y2 y3 y4 y5 y6) (weftref1_covered.j0 (k + 1) y0 y1 y2 y3 y4 y5 y6)) ∧ (∀ y0 y1 y2 y3 y4 y5, LeO (weftref1_covered.j1 k y0 y1 y2 y3 y4 y5) (weftref1_covered.j1 (k + 1) y0 y1 y2 y3 y4 y5))
  | 0 => ⟨fun _ _ _ _ _ r h => by simp [weftref1_covered.f] at h, fun _ _ _ _ _ _ _ r h => by simp [weftref1_covered.j0] at h, fun _ _ _ _ _ _ r h => by simp [weftref1_covered.j1] at h⟩
  | k + 1 => by
    obtain ⟨ih0, ih1, ih2⟩ := weftref1_covered.mono_l k
    refine ⟨?_, ?_, ?_⟩
    · intro y0 y1 y2 y3 y4
      unfold weftref1_covered.f
      repeat' first
      | (with_reducible exact ih0 _ _ _ _ _)
      | (with_reducible exact ih1 _ _ _ _ _ _ _)
      | (with_reducible exact ih2 _ _ _ _ _ _)
      | (with_reducible exact weftref1_size.mono _ _)
      | (with_reducible exact LeO.refl _)
      | (with_reducible exact LeO.none _)
      | (with_reducible refine LeO.ite ?_ ?_)
      | (with_reducible refine LeO.bind ?_ (fun _ => ?_))
      | exact ih0 _ _ _ _ _
      | exact ih1 _ _ _ _ _ _ _
      | exact ih2 _ _ _ _ _ _
      | exact weftref1_size.mono _ _
      | exact LeO.none _
      | refine LeO.ite ?_ ?_
      | refine LeO.bind ?_ (fun _ => ?_)
    · intro y0 y1 y2 y3 y4 y5 y6
      unfold weftref1_covered.j0
      repeat' first
      | (with_reducible exact ih0 _ _ _ _ _)
      | (with_reducible exact ih1 _ _ _ _ _ _ _)
      | (with_reducible exact ih2 _ _ _ _ _ _)
      | (with_reducible exact weftref1_size.mono _ _)
      | (with_reducible exact LeO.refl _)
      | (with_reducible exact LeO.none _)
      | (with_reducible refine LeO.ite ?_ ?_)
      | (with_reducible refine LeO.bind ?_ (fun _ => ?_))
      | exact ih0 _ _ _ _ _
      | exact ih1 _ _ _ _ _ _ _
      | exact ih2 _ _ _ _ _ _
      | exact weftref1_size.mono _ _
      | exact LeO.none _
      | refine LeO.ite ?_ ?_
      | refine LeO.bind ?_ (fun _ => ?_)
    · intro y0 y1 y2 y3 y4 y5
      unfold weftref1_covered.j1
      repeat' first
      | (with_reducible exact ih0 _ _ _ _ _)
      | (with_reducible exact ih1 _ _ _ _ _ _ _)
      | (with_reducible exact ih2 _ _ _ _ _ _)
      | (with_reducible exact weftref1_size.mono _ _)
      | (with_reducible exact LeO.refl _)
      | (with_reducible exact LeO.none _)
      | (with_reducible refine LeO.ite ?_ ?_)
      | (with_reducible refine LeO.bind ?_ (fun _ => ?_))
      | exact ih0 _ _ _ _ _
      | exact ih1 _ _ _ _ _ _ _
      | exact ih2 _ _ _ _ _ _
      | exact weftref1_size.mono _ _
      | exact LeO.none _
      | refine LeO.ite ?_ ?_
      | refine LeO.bind ?_ (fun _ => ?_)
theorem weftref1_covered.mono : ∀ a0 a1 a2 a3 a4 k, LeO (weftref1_covered.f k a0 a1 a2 a3 a4) (weftref1_covered.f (k + 1) a0 a1 a2 a3 a4) := by
  intro a0 a1 a2 a3 a4 k
  obtain ⟨ih0, ih1, ih2⟩ := weftref1_covered.mono_l k
  exact ih0 a0 a1 a2 a3 a4
set_option maxHeartbeats 8000000 in
set_option maxRecDepth 100000 in
theorem weftref1_covered.calls (k : Nat) : ∀ (P0_ : Nat → Prop) (u9000_ : Value) (l0 : List (S32)) (a1 : Int) (a2 : Int) (a3 : Int) (a4 : Int) (r : List (S32)) (w0 w : World) (hB : Below w0.heap.size w0 w) (ho0 : Kd.R k32 32 w w0.heap.size P0_ u9000_ l0) (h : weftref1_covered.f k l0 a1 a2 a3 a4 = some r),
    Calls Try.prog 32 #[u9000_, .int .i64 a1, .int .i64 a2, .int .i64 a3, .int .i64 a4] w fun e w' => ∃ v0_ : Value, e = .returned (v0_) ∧ Kd.R k32 32 w' w0.heap.size (fun k_ => (P0_ k_ ∨ w.heap.size ≤ k_)) v0_ r ∧ Below w0.heap.size w0 w' ∧ Kept w w' (fun k_ => P0_ k_) := by
  induction k using Nat.strongRecOn with
  | _ k ih =>
  intro P0_ u9000_ l0 a1 a2 a3 a4 r w0 w hB ho0 h
  cases k with
  | zero => exact absurd h (by simp [weftref1_covered.f])
  | succ k =>
  simp only [weftref1_covered.f] at h
  have hu32 := Try.underlying32
  have HO0 := Aside0.mk (show Kd.R k32 32 w w0.heap.size (fun k_ => (P0_ k_ ∨ w.heap.size ≤ k_)) u9000_ l0 from Kd.R_mono ho0 (fun k_ hk => (.inl hk)))
  have HK := Aside0.mk (Kept.refl w (fun k_ => P0_ k_))
  have HW0 := Aside0.mk hB.size
  have HB := Aside0.mk hB
  clear hB
  have H : ((weftref1_size.f k a2).bind fun t128 => (if a3 > (wrap64 ((wrap64 (a1 + t128)) - 1)) then (weftref1_covered.j0 k l0 a1 a2 a3 a4 (wrap64 ((wrap64 (a1 + t128)) - 1)) true) else (weftref1_covered.j0 k l0 a1 a2 a3 a4 (wrap64 ((wrap64 (a1 + t128)) - 1)) (decide (a4 < a1))))) = some r := h
  clear h
  replace H := Option.bind_eq_some_iff.mp H
  obtain ⟨t128, A60, H⟩ := H
  replace H : (if a3 > (wrap64 ((wrap64 (a1 + t128)) - 1)) then (weftref1_covered.j0 k l0 a1 a2 a3 a4 (wrap64 ((wrap64 (a1 + t128)) - 1)) true) else (weftref1_covered.j0 k l0 a1 a2 a3 a4 (wrap64 ((wrap64 (a1 + t128)) - 1)) (decide (a4 < a1)))) = some r := H
  have A6 := Aside0.mk A60
  clear A60
  have HC7 := Aside0.mk H
  clear H
  go_enter Try.func32, Try.ntmps32
  go_upto_region 2 with (first | ((with_reducible refine gate_callee (f := 43) rfl ?_); refine goesL_ (some 15) rfl rfl Try.func43 (by kernel_rfl) rfl #[.int .i64 a2] rfl (by (try simp only [List.map_toArray, List.map_cons, List.map_nil]); first | done | rfl | (simp only [List.length_drop, List.length_take]; rfl)) ?_; (with_reducible refine (weftref1_size.calls k a2 t128 _ A6.out).mono ?_); rintro e w' ⟨rfl, ⟨nd, rfl⟩⟩; refine ⟨_, rfl, ?_⟩))
  (try simp only [Act.put, List.setIfInBounds_toArray, List.set_cons_zero, List.set_cons_succ])
  go_cut [25] (fun v25 wc => ∃ (kq : Nat) (x25_6 : Bool), v25 = .bool x25_6 ∧ Aside0 (weftref1_covered.j0 kq l0 a1 a2 a3 a4 (wrap64 ((wrap64 (a1 + t128)) - 1)) x25_6 = some r) ∧ Aside0 (kq ≤ k) ∧ Aside0 (Kd.R k32 32 wc w0.heap.size (fun k_ => (P0_ k_ ∨ w.heap.size ≤ k_)) u9000_ l0) ∧ Aside0 (Kept w wc (fun k_ => P0_ k_)) ∧ Aside0 (Below w0.heap.size w0 wc))
  case first =>
    have H := HC7.out
    clear HC7
    by_cases c8 : a3 > (wrap64 ((wrap64 (a1 + t128)) - 1))
    · rw [if_pos c8] at H
      have c8b0 : decide ((wrap64 ((wrap64 (a1 + t128)) - 1)) < a3) = true := decide_eq_true c8
      clear c8
      (first | rw [c8b0] | (simp only [i64_w, i32_w]; rw [c8b0]) | skip)
      have H' := Aside0.mk H
      clear H
      go_wp2
      go_meet
      case rel => exact ⟨_, (true), (by first | rfl | (simp; done) | (simp [*]; done)), H', ⟨by first | omega | exact Nat.le_refl _⟩, ⟨by (with_reducible repeat (first | apply Kd.R_alloc | apply Kd.R_drewN | apply Kd.R_drew)); exact HO0.out⟩, ⟨by repeat (first | (with_reducible first | exact HK.out | apply Kept.alloc | apply Kept.drewN | apply Kept.drew) | exact HK.out)⟩, ⟨by repeat (first | (with_reducible first | exact HB.out | apply below_alloc | apply pw_below_drewN | apply below_drew1) | exact HB.out)⟩⟩
    · rw [if_neg c8] at H
      have c8b0 : decide ((wrap64 ((wrap64 (a1 + t128)) - 1)) < a3) = false := decide_eq_false c8
      clear c8
      (first | rw [c8b0] | (simp only [i64_w, i32_w]; rw [c8b0]) | skip)
      have H' := Aside0.mk H
      clear H
      go_wp2
      go_meet
      case rel => exact ⟨_, (decide (a4 < a1)), (by first | rfl | (simp; done) | (simp [*]; done)), H', ⟨by first | omega | exact Nat.le_refl _⟩, ⟨by (with_reducible repeat (first | apply Kd.R_alloc | apply Kd.R_drewN | apply Kd.R_drew)); exact HO0.out⟩, ⟨by repeat (first | (with_reducible first | exact HK.out | apply Kept.alloc | apply Kept.drewN | apply Kept.drew) | exact HK.out)⟩, ⟨by repeat (first | (with_reducible first | exact HB.out | apply below_alloc | apply pw_below_drewN | apply below_drew1) | exact HB.out)⟩⟩
  case rest =>
    clear HC7
    try clear p2
    try clear c3
    try clear c4
    try clear p6
    try clear c8
    try clear c8b0
    obtain ⟨kq, x25_6, rfl, HA, HJ6, HO_0, HK, HB⟩ := hcut
    cases kq with
    | zero => exact absurd HA.out (by simp [weftref1_covered.j0])
    | succ kj6 =>
      have H := HA.out
      clear HA
      simp only [weftref1_covered.j0] at H
      by_cases c9 : x25_6 = true
      · subst c9
        have H1 : (some l0) = some r := by rw [if_pos rfl] at H; exact H
        clear H
        have H := H1
        clear H1
        obtain rfl := Option.some.inj H
        go_wp2
        go_ret
        exact ⟨_, by first | rfl | (simp [errW_none, errW_some] <;> rfl) | (simp [*, errW_none, errW_some] <;> rfl), by (with_reducible repeat (first | apply Kd.R_alloc | apply Kd.R_drewN | apply Kd.R_drew)); exact HO_0.out, by repeat (first | (with_reducible first | exact HB.out | apply below_alloc | apply pw_below_drewN | apply below_drew1) | exact HB.out), by repeat (first | (with_reducible first | exact HK.out | apply Kept.alloc | apply Kept.drewN | apply Kept.drew) | exact HK.out)⟩
      · replace c9 := Bool.eq_false_iff.mpr c9
        subst c9
        have H1 : (if a3 ≤ a1 then (weftref1_covered.j1 kj6 l0 a1 a2 a3 a4 (decide ((wrap64 ((wrap64 (a1 + t128)) - 1)) ≤ a4))) else (weftref1_covered.j1 kj6 l0 a1 a2 a3 a4 false)) = some r := by rw [if_neg (show ¬ (false = true) by decide)] at H; exact H
        clear H
        have H := H1
        clear H1
        have HC10 := Aside0.mk H
        clear H
        go_upto_region 4 with (fail)
        go_cut [34] (fun v34 wc => ∃ (kq : Nat) (x34_9 : Bool), v34 = .bool x34_9 ∧ Aside0 (weftref1_covered.j1 kq l0 a1 a2 a3 a4 x34_9 = some r) ∧ Aside0 (kq ≤ kj6) ∧ Aside0 (Kd.R k32 32 wc w0.heap.size (fun k_ => (P0_ k_ ∨ w.heap.size ≤ k_)) u9000_ l0) ∧ Aside0 (Kept w wc (fun k_ => P0_ k_)) ∧ Aside0 (Below w0.heap.size w0 wc))
        case first =>
          have H := HC10.out
          clear HC10
          by_cases c11 : a3 ≤ a1
          · rw [if_pos c11] at H
            have c11b0 : decide (a3 ≤ a1) = true := decide_eq_true c11
            clear c11
            (first | rw [c11b0] | (simp only [i64_w, i32_w]; rw [c11b0]) | skip)
            have H' := Aside0.mk H
            clear H
            go_wp2
            go_meet
            case rel => exact ⟨_, (decide ((wrap64 ((wrap64 (a1 + t128)) - 1)) ≤ a4)), (by first | rfl | (simp; done) | (simp [*]; done)), H', ⟨by have := HJ6.out; first | omega | exact Nat.le_refl _⟩, ⟨by (with_reducible repeat (first | apply Kd.R_alloc | apply Kd.R_drewN | apply Kd.R_drew)); exact HO_0.out⟩, ⟨by repeat (first | (with_reducible first | exact HK.out | apply Kept.alloc | apply Kept.drewN | apply Kept.drew) | exact HK.out)⟩, ⟨by repeat (first | (with_reducible first | exact HB.out | apply below_alloc | apply pw_below_drewN | apply below_drew1) | exact HB.out)⟩⟩
          · rw [if_neg c11] at H
            have c11b0 : decide (a3 ≤ a1) = false := decide_eq_false c11
            clear c11
            (first | rw [c11b0] | (simp only [i64_w, i32_w]; rw [c11b0]) | skip)
            have H' := Aside0.mk H
            clear H
            go_wp2
            go_meet
            case rel => exact ⟨_, (false), (by first | rfl | (simp; done) | (simp [*]; done)), H', ⟨by have := HJ6.out; first | omega | exact Nat.le_refl _⟩, ⟨by (with_reducible repeat (first | apply Kd.R_alloc | apply Kd.R_drewN | apply Kd.R_drew)); exact HO_0.out⟩, ⟨by repeat (first | (with_reducible first | exact HK.out | apply Kept.alloc | apply Kept.drewN | apply Kept.drew) | exact HK.out)⟩, ⟨by repeat (first | (with_reducible first | exact HB.out | apply below_alloc | apply pw_below_drewN | apply below_drew1) | exact HB.out)⟩⟩
        case rest =>
          clear HC10
          try clear c1
          try clear p2
          try clear c3
          try clear c4
          try clear p6
          try clear c8
          try clear c8b0
          try clear c9
          try clear c11
          try clear c11b0
          try clear p2
          try clear p6
          obtain ⟨kq, x34_9, rfl, HA, HJ9, HO_0, HK, HB⟩ := hcut
          cases kq with
          | zero => exact absurd HA.out (by simp [weftref1_covered.j1])
          | succ kj9 =>
            have H := HA.out
            clear HA
            simp only [weftref1_covered.j1] at H
            by_cases c12 : x34_9 = true
            · subst c12
              have H1 : (if l0.length < 8796093022208 then (some (l0 ++ [(⟨(a1) % 4294967296, a2⟩ : S32)])) else (none)) = some r := by rw [if_pos rfl] at H; exact H
              clear H
              have H := H1
              clear H1
              by_cases c13 : l0.length < 8796093022208
              · rw [if_pos c13] at H
                have LMc13 := Aside0.mk c13
                clear c13
                obtain ⟨y129, hy129⟩ : ∃ y_ : List (S32), y_ = (l0 ++ [(⟨(a1) % 4294967296, a2⟩ : S32)]) := ⟨_, rfl⟩
                replace H : (some y129) = some r := by first | (rw [hy129]; with_reducible exact H) | (have H2_ := (Option.bind_some _ _).symm.trans H; rw [hy129]; with_reducible exact H2_) | (have H2_ := (Option.bind_some _ _).symm.trans H; with_reducible exact H2_) | with_reducible exact H | (rw [hy129]; exact H) | exact H
                have Ny129 := Aside0.mk hy129
                clear hy129
                obtain rfl := Option.some.inj H
                go_wp2_with (first | ((with_reducible refine gate_builtin (b := .append) (xs := #[.tmp 35, .tmp 40]) rfl ?_); at_builtin; refine Kd.R_append k32 (w0 := w0) w0.heap.size rfl (.tmp 35) (.tmp 40) 25 32 (.agg #[(.int .u32 0), (.int .i64 0)]) 16 rfl Try.underlying25 info32 rfl (by decide) (by omega) u9000_ l0 (⟨(a1) % 4294967296, a2⟩ : S32) [.int .u32 ((a1) % 4294967296), .int .i64 a2] (fun k_ => (P0_ k_ ∨ w.heap.size ≤ k_)) (fun _ => False) rfl rfl ?aP (fun _ hk => hk.elim) ?aF ?aO ?aB ?aS ?aL ?_; (case aP => exact k32_mkM _ _ _ (⟨(a1) % 4294967296, a2⟩ : S32)); (case aB => exact (by repeat (first | (with_reducible first | exact HB.out | apply below_alloc | apply pw_below_drewN | apply below_drew1) | exact HB.out))); (case aF => exact (fun k_ hk => (.inr (Nat.le_trans (by first | exact HK.out.1 | exact (show Kept w _ (fun k_ => P0_ k_) from by repeat (first | (with_reducible first | exact HK.out | apply Kept.alloc | apply Kept.drewN | apply Kept.drew) | exact HK.out)).1) hk)))); (case aO => exact (by (with_reducible repeat (first | apply Kd.R_alloc | apply Kd.R_drewN | apply Kd.R_drew)); exact HO_0.out)); (case aS => exact (below_size (by repeat (first | (with_reducible first | exact HB.out | apply below_alloc | apply pw_below_drewN | apply below_drew1) | exact HB.out)))); (case aL => have := LMc13.out; omega); intro v130 w14 ho hb hg hat; rw [← Ny129.out] at ho; have n0_ := Aside0.mk (hb); have n1_ := Aside0.mk (Kept.of_grown (S := (fun k_ => P0_ k_)) hg (by repeat (first | (with_reducible first | exact HK.out | apply Kept.alloc | apply Kept.drewN | apply Kept.drew) | exact HK.out)) (fun k_ e_ => (HO_0.out.1 k_ e_))); have n2_ := Aside0.mk (ho); clear HB; clear HK; clear HO_0; have HB := n0_; have HK := n1_; have HO131 := n2_; clear n0_ n1_ n2_; clear ho hb hg hat))
                go_ret
                exact ⟨_, by first | rfl | (simp [errW_none, errW_some] <;> rfl) | (simp [*, errW_none, errW_some] <;> rfl), by (with_reducible repeat (first | apply Kd.R_alloc | apply Kd.R_drewN | apply Kd.R_drew)); exact HO131.out, by repeat (first | (with_reducible first | exact HB.out | apply below_alloc | apply pw_below_drewN | apply below_drew1) | exact HB.out), by repeat (first | (with_reducible first | exact HK.out | apply Kept.alloc | apply Kept.drewN | apply Kept.drew) | exact HK.out)⟩
              · rw [if_neg c13] at H
                exact absurd H (by simp)
            · replace c12 := Bool.eq_false_iff.mpr c12
              subst c12
              have H1 : ((weftref1_size.f kj9 (wrap64 (a2 + 1))).bind fun t132 => ((weftref1_covered.f kj9 l0 a1 (wrap64 (a2 + 1)) a3 a4).bind fun t133 => ((weftref1_covered.f kj9 t133 (wrap64 (a1 + t132)) (wrap64 (a2 + 1)) a3 a4).bind fun t136 => (some t136)))) = some r := by rw [if_neg (show ¬ (false = true) by decide)] at H; exact H
              clear H
              have H := H1
              clear H1
              replace H := Option.bind_eq_some_iff.mp H
              obtain ⟨t132, A150, H⟩ := H
              replace H : ((weftref1_covered.f kj9 l0 a1 (wrap64 (a2 + 1)) a3 a4).bind fun t133 => ((weftref1_covered.f kj9 t133 (wrap64 (a1 + t132)) (wrap64 (a2 + 1)) a3 a4).bind fun t136 => (some t136))) = some r := H
              have A15 := Aside0.mk A150
              clear A150
              replace H := Option.bind_eq_some_iff.mp H
              obtain ⟨t133, A160, H⟩ := H
              replace H : ((weftref1_covered.f kj9 t133 (wrap64 (a1 + t132)) (wrap64 (a2 + 1)) a3 a4).bind fun t136 => (some t136)) = some r := H
              have A16 := Aside0.mk A160
              clear A160
              replace H := Option.bind_eq_some_iff.mp H
              obtain ⟨t136, A170, H⟩ := H
              replace H : (some t136) = some r := H
              have A17 := Aside0.mk A170
              clear A170
              obtain rfl := Option.some.inj H
              go_wp2_with (first | ((with_reducible refine gate_callee (f := 43) rfl ?_); refine goesL_ (some 45) rfl rfl Try.func43 (by kernel_rfl) rfl #[.int .i64 (wrap64 (a2 + 1))] rfl (by (try simp only [List.map_toArray, List.map_cons, List.map_nil]); first | done | rfl | (simp only [List.length_drop, List.length_take]; rfl)) ?_; (with_reducible refine (weftref1_size.calls kj9 (wrap64 (a2 + 1)) t132 _ A15.out).mono ?_); rintro e w' ⟨rfl, ⟨nd, rfl⟩⟩; refine ⟨_, rfl, ?_⟩; obtain ⟨Ao18, co18, eo18⟩ := Kd.R_slice HO_0.out; subst eo18) | ((with_reducible refine gate_callee (f := 32) rfl ?_); refine goesL_ (some 52) rfl rfl Try.func32 (by kernel_rfl) rfl #[.slice Ao18 l0.length co18, .int .i64 a1, .int .i64 (wrap64 (a2 + 1)), .int .i64 a3, .int .i64 a4] rfl (by (try simp only [List.map_toArray, List.map_cons, List.map_nil]); first | done | rfl | (simp only [List.length_drop, List.length_take]; rfl)) ?_; (with_reducible refine (ih kj9 (by have := HJ6.out; have := HJ9.out; omega) (fun k_ => some k_ = (.slice Ao18 l0.length co18 : Value).ownBlock) (.slice Ao18 l0.length co18) l0 a1 (wrap64 (a2 + 1)) a3 a4 t133 w0 _ ?side1 ?side2 A16.out).mono ?_); (case side1 => repeat (first | (with_reducible first | exact HB.out | apply below_alloc | apply pw_below_drewN | apply below_drew1) | exact HB.out)); (case side2 => exact Kd.R_tight rfl HO_0.out); rintro e w19 ⟨v134, rfl, ho0, hb, hkp⟩; refine ⟨_, rfl, ?_⟩; have n0_ := Aside0.mk (Kd.R_mono (ok' := fun k_ => (P0_ k_ ∨ w.heap.size ≤ k_)) ho0 (fun k_ hk_ => Or.elim hk_ (fun hs_ => (HO_0.out.1 k_ (hs_).symm)) (fun hn_ => (.inr (Nat.le_trans (by first | exact HK.out.1 | exact (show Kept w _ (fun k_ => P0_ k_) from by repeat (first | (with_reducible first | exact HK.out | apply Kept.alloc | apply Kept.drewN | apply Kept.drew) | exact HK.out)).1) hn_))))); have n1_ := Aside0.mk (Kept.then_ (S := (fun k_ => P0_ k_)) (by repeat (first | (with_reducible first | exact HK.out | apply Kept.alloc | apply Kept.drewN | apply Kept.drew) | exact HK.out)) hkp (fun k_ hs_ => (fun e_ => (HO_0.out.1 k_ e_.symm)) hs_)); have n2_ := Aside0.mk (hb); clear HK; clear HB; clear HO_0; have HO135 := n0_; have HK := n1_; have HB := n2_; clear n0_ n1_ n2_; (try clear hb); (try clear hkp); (try clear ho0); obtain ⟨Ao20, co20, eo20⟩ := Kd.R_slice HO135.out; subst eo20) | ((with_reducible refine gate_callee (f := 32) rfl ?_); refine goesL_ (some 61) rfl rfl Try.func32 (by kernel_rfl) rfl #[.slice Ao20 t133.length co20, .int .i64 (wrap64 (a1 + t132)), .int .i64 (wrap64 (a2 + 1)), .int .i64 a3, .int .i64 a4] rfl (by (try simp only [List.map_toArray, List.map_cons, List.map_nil]); first | done | rfl | (simp only [List.length_drop, List.length_take]; rfl)) ?_; (with_reducible refine (ih kj9 (by have := HJ6.out; have := HJ9.out; omega) (fun k_ => some k_ = (.slice Ao20 t133.length co20 : Value).ownBlock) (.slice Ao20 t133.length co20) t133 (wrap64 (a1 + t132)) (wrap64 (a2 + 1)) a3 a4 t136 w0 _ ?side1 ?side2 A17.out).mono ?_); (case side1 => repeat (first | (with_reducible first | exact HB.out | apply below_alloc | apply pw_below_drewN | apply below_drew1) | exact HB.out)); (case side2 => exact Kd.R_tight rfl HO135.out); rintro e w21 ⟨v137, rfl, ho0, hb, hkp⟩; refine ⟨_, rfl, ?_⟩; have n0_ := Aside0.mk (Kd.R_mono (ok' := fun k_ => (P0_ k_ ∨ w.heap.size ≤ k_)) ho0 (fun k_ hk_ => Or.elim hk_ (fun hs_ => (HO135.out.1 k_ (hs_).symm)) (fun hn_ => (.inr (Nat.le_trans (by first | exact HK.out.1 | exact (show Kept w _ (fun k_ => P0_ k_) from by repeat (first | (with_reducible first | exact HK.out | apply Kept.alloc | apply Kept.drewN | apply Kept.drew) | exact HK.out)).1) hn_))))); have n1_ := Aside0.mk (Kept.then_ (S := (fun k_ => P0_ k_)) (by repeat (first | (with_reducible first | exact HK.out | apply Kept.alloc | apply Kept.drewN | apply Kept.drew) | exact HK.out)) hkp (fun k_ hs_ => (fun e_ => (HO135.out.1 k_ e_.symm)) hs_)); have n2_ := Aside0.mk (hb); clear HK; clear HB; clear HO135; have HO138 := n0_; have HK := n1_; have HB := n2_; clear n0_ n1_ n2_; (try clear hb); (try clear hkp); (try clear ho0)))
              go_ret
              exact ⟨_, by first | rfl | (simp [errW_none, errW_some] <;> rfl) | (simp [*, errW_none, errW_some] <;> rfl), by (with_reducible repeat (first | apply Kd.R_alloc | apply Kd.R_drewN | apply Kd.R_drew)); exact HO138.out, by repeat (first | (with_reducible first | exact HB.out | apply below_alloc | apply pw_below_drewN | apply below_drew1) | exact HB.out), by repeat (first | (with_reducible first | exact HK.out | apply Kept.alloc | apply Kept.drewN | apply Kept.drew) | exact HK.out)⟩

/-! ### weftref1_Cover: function 11 -/
def weftref1_Cover.f (k : Nat) (a0 : Int) (a1 : Int) : Option ((List (S32))) := if a0 > a1 then (some ([] : List (S32))) else ((weftref1_covered.f k ([] : List (S32)) 0 0 (wrap64 (a0)) (wrap64 (a1))).bind fun t139 => (some t139))
theorem weftref1_Cover.mono : ∀ a0 a1 k, LeO (weftref1_Cover.f k a0 a1) (weftref1_Cover.f (k + 1) a0 a1) := by
  intro a0 a1 k
  unfold weftref1_Cover.f
  repeat' first
      | (with_reducible exact weftref1_covered.mono _ _ _ _ _ _)
      | (with_reducible exact LeO.refl _)
      | (with_reducible exact LeO.none _)
      | (with_reducible refine LeO.ite ?_ ?_)
      | (with_reducible refine LeO.bind ?_ (fun _ => ?_))
      | exact weftref1_covered.mono _ _ _ _ _ _
      | exact LeO.none _
      | refine LeO.ite ?_ ?_
      | refine LeO.bind ?_ (fun _ => ?_)
set_option maxHeartbeats 8000000 in
set_option maxRecDepth 100000 in
theorem weftref1_Cover.calls (k : Nat) (a0 : Int) (a1 : Int) (r : List (S32)) (w : World) (h : weftref1_Cover.f k a0 a1 = some r) :
    Calls Try.prog 11 #[.int .u32 a0, .int .u32 a1] w fun e w' => ∃ v0_ : Value, e = .returned (v0_) ∧ Kd.R k32 32 w' w.heap.size (fun _ => True) v0_ r ∧ Below w.heap.size w w' := by
  have HB := Aside0.mk (Below.refl w.heap.size w)
  have H : (if a0 > a1 then (some ([] : List (S32))) else ((weftref1_covered.f k ([] : List (S32)) 0 0 (wrap64 (a0)) (wrap64 (a1))).bind fun t139 => (some t139))) = some r := h
  clear h
  by_cases c3 : a0 > a1
  · rw [if_pos c3] at H
    have c3b0 : decide (a1 < a0) = true := decide_eq_true c3
    clear c3
    obtain rfl := Option.some.inj H
    go_enter Try.func11, Try.ntmps11
    go_wp2
    go_ret
    exact ⟨_, by first | rfl | (simp [errW_none, errW_some] <;> rfl) | (simp [*, errW_none, errW_some] <;> rfl), by first | exact Kd.R_nil _ _ _ _ _ | exact Kd.N_nil _ _ _ _ _ | exact Kd.V_nil _ _ _ _ _ | exact Kd.Q_nil _ _ _ _ _ | exact Kd.S_nil _ _ _ _ _, by repeat (first | (with_reducible first | exact HB.out | apply below_alloc | apply pw_below_drewN | apply below_drew1) | exact HB.out)⟩
  · rw [if_neg c3] at H
    have c3b0 : decide (a1 < a0) = false := decide_eq_false c3
    clear c3
    replace H := Option.bind_eq_some_iff.mp H
    obtain ⟨t139, A40, H⟩ := H
    replace H : (some t139) = some r := H
    have A4 := Aside0.mk A40
    clear A40
    obtain rfl := Option.some.inj H
    go_enter Try.func11, Try.ntmps11
    go_wp2_with (first | ((with_reducible refine gate_callee (f := 32) rfl ?_); refine goesL_ (some 12) rfl rfl Try.func32 (by kernel_rfl) rfl #[.slice none 0 0, .int .i64 0, .int .i64 0, .int .i64 (wrap64 (a0)), .int .i64 (wrap64 (a1))] rfl (by (try simp only [List.map_toArray, List.map_cons, List.map_nil]); first | done | rfl | (simp only [List.length_drop, List.length_take]; rfl)) ?_; (refine (weftref1_covered.calls k (fun k_ => some k_ = (.slice none 0 0 : Value).ownBlock) (.slice none 0 0) ([] : List (S32)) 0 0 (wrap64 (a0)) (wrap64 (a1)) t139 w _ ?side1 ?side2 A4.out).mono ?_); (case side1 => repeat (first | (with_reducible first | exact HB.out | apply below_alloc | apply pw_below_drewN | apply below_drew1) | exact HB.out)); (case side2 => exact Kd.R_nil _ _ _ _ _); rintro e w5 ⟨v140, rfl, ho0, hb, hkp⟩; refine ⟨_, rfl, ?_⟩; have n0_ := Aside0.mk (Kd.R_mono (ok' := fun k_ => True) ho0 (fun k_ hk_ => trivial)); have n1_ := Aside0.mk (hb); clear HB; have HO141 := n0_; have HB := n1_; clear n0_ n1_; (try clear hb); (try clear hkp); (try clear ho0)))
    go_ret
    exact ⟨_, by first | rfl | (simp [errW_none, errW_some] <;> rfl) | (simp [*, errW_none, errW_some] <;> rfl), by (with_reducible repeat (first | apply Kd.R_alloc | apply Kd.R_drewN | apply Kd.R_drew)); exact HO141.out, by repeat (first | (with_reducible first | exact HB.out | apply below_alloc | apply pw_below_drewN | apply below_drew1) | exact HB.out)⟩

/-! ### addr_Merge: function 24 -/
-- calls=weft/addr.fault weft/addr.last weft/addr.Cover
def prS (x : S32) : Int × Int := (x.f0, x.f1)
def unS (p : Int × Int) : S32 := ⟨p.1, p.2⟩
def srtS (l : List S32) : List S32 := (SortP.srt (l.map prS)).map unS
/-- the error of the first that is none, or 0 -/
def faults (k : Nat) : List S32 → Option Int
  | [] => some 0
  | p :: r => (addr_fault.f k p.f0 p.f1).bind fun e => if e = 0 then faults k r else some e
def mergeGo (k : Nat) : List S32 → Int → Int → List S32 → Option (List S32)
  | [], lo, hi, out => (addr_Cover.f k lo hi).bind fun c => if (out.length + c.length) * 16 ≤ 140737488355328 then some (out ++ c) else none
  | p :: r, lo, hi, out => if hi = 4294967295 ∨ p.f0 ≤ (hi + 1) % 4294967296 then (addr_last.f p.f0 p.f1).bind fun e => mergeGo k r lo (max hi e) out
      else (addr_Cover.f k lo hi).bind fun c => if (out.length + c.length) * 16 ≤ 140737488355328 then (addr_last.f p.f0 p.f1).bind fun e => mergeGo k r p.f0 e (out ++ c) else none
def mergeOut (k : Nat) : List S32 → List S32 → Option (List S32)
  | [], out => some out
  | p :: r, out => (addr_last.f p.f0 p.f1).bind fun e => mergeGo k r p.f0 e out
def addr_Merge.f (k : Nat) (l0 : List S32) : Option (List S32 × Int) :=
  if l0.length > 4096 then some ([], 2) else (faults k l0).bind fun e => if e = 0 then (mergeOut k (srtS l0) []).bind fun r => some (r, 0) else some ([], e)
theorem faults_mono (k : Nat) : ∀ l, LeO (faults k l) (faults (k + 1) l)
  | [] => LeO.refl _
  | p :: r => LeO.bind (addr_fault.mono _ _ _) fun _ => LeO.ite (faults_mono k r) (LeO.refl _)
theorem mergeGo_mono (k : Nat) : ∀ l lo hi out, LeO (mergeGo k l lo hi out) (mergeGo (k + 1) l lo hi out)
  | [], _, _, _ => LeO.bind (addr_Cover.mono _ _ _) fun _ => LeO.refl _
  | p :: r, _, _, _ => LeO.ite (LeO.bind (LeO.refl _) fun _ => mergeGo_mono k r _ _ _) (LeO.bind (addr_Cover.mono _ _ _) fun _ => LeO.ite (LeO.bind (LeO.refl _) fun _ => mergeGo_mono k r _ _ _) (LeO.refl _))
theorem mergeOut_mono (k : Nat) : ∀ l out, LeO (mergeOut k l out) (mergeOut (k + 1) l out)
  | [], _ => LeO.refl _
  | p :: r, _ => LeO.bind (LeO.refl _) fun _ => mergeGo_mono k r _ _ _
theorem addr_Merge.mono : ∀ a0 k, LeO (addr_Merge.f k a0) (addr_Merge.f (k + 1) a0) := fun a0 k =>
  LeO.ite (LeO.refl _) (LeO.bind (faults_mono k a0) fun _ => LeO.ite (LeO.bind (mergeOut_mono k _ _) fun _ => LeO.refl _) (LeO.refl _))
theorem faults_at {k : Nat} {l0 : List S32} {i : Nat} {e : Int} (hi : i < l0.length) (h : faults k (l0.drop i) = some e) :
    ∃ e1, addr_fault.f k (rd_T32 l0 i).f0 (rd_T32 l0 i).f1 = some e1 ∧ (if e1 = 0 then faults k (l0.drop (i + 1)) else some e1) = some e := by
  rw [List.drop_eq_getElem_cons hi] at h
  obtain ⟨e1, h1, h2⟩ := Option.bind_eq_some_iff.1 h
  have hr : rd_T32 l0 i = l0[i] := by simp [rd_T32, List.getD_eq_getElem?_getD, hi]
  rw [hr]
  exact ⟨e1, h1, h2⟩
theorem max_if (a b : Int) : max a b = if a < b then b else a := by split <;> omega
theorem meas_up {n i : Nat} (h : i < n) : n - (intOf (.int .i64 ((i + 1 : Nat) : Int))).toNat < n - (intOf (.int .i64 (i : Int))).toNat := by
  simp [intOf]; omega
theorem mergeOut_at {k : Nat} {S xs out : List S32} {i : Nat} (hi : i < S.length) (h : mergeOut k (S.drop i) xs = some out) :
    ∃ e1, addr_last.f (rd_T32 S i).f0 (rd_T32 S i).f1 = some e1 ∧ mergeGo k (S.drop (i + 1)) (rd_T32 S i).f0 e1 xs = some out := by
  rw [List.drop_eq_getElem_cons hi] at h
  have hr : rd_T32 S i = S[i] := by simp [rd_T32, List.getD_eq_getElem?_getD, hi]
  rw [hr]
  exact Option.bind_eq_some_iff.1 h
theorem mergeGo_in {k : Nat} {S xs out : List S32} {j : Nat} {lo hh : Int} (hi : j < S.length) (hc : hh = 4294967295 ∨ (rd_T32 S j).f0 ≤ (hh + 1) % 4294967296) (h : mergeGo k (S.drop j) lo hh xs = some out) :
    ∃ e1, addr_last.f (rd_T32 S j).f0 (rd_T32 S j).f1 = some e1 ∧ mergeGo k (S.drop (j + 1)) lo (max hh e1) xs = some out := by
  have hr : rd_T32 S j = S[j] := by simp [rd_T32, List.getD_eq_getElem?_getD, hi]
  rw [hr] at hc ⊢
  rw [List.drop_eq_getElem_cons hi] at h
  unfold mergeGo at h
  rw [if_pos hc] at h
  exact Option.bind_eq_some_iff.1 h
theorem mergeGo_out {k : Nat} {S xs out : List S32} {j : Nat} {lo hh : Int} (hc : ∀ _ : j < S.length, ¬ (hh = 4294967295 ∨ (rd_T32 S j).f0 ≤ (hh + 1) % 4294967296)) (h : mergeGo k (S.drop j) lo hh xs = some out) :
    ∃ c, addr_Cover.f k lo hh = some c ∧ (xs.length + c.length) * 16 ≤ 140737488355328 ∧ mergeOut k (S.drop j) (xs ++ c) = some out := by
  by_cases hi : j < S.length
  · have hr : rd_T32 S j = S[j] := by simp [rd_T32, List.getD_eq_getElem?_getD, hi]
    have hc := hc hi
    rw [hr] at hc
    rw [List.drop_eq_getElem_cons hi] at h ⊢
    unfold mergeGo at h
    rw [if_neg hc] at h
    obtain ⟨c, h1, h2⟩ := Option.bind_eq_some_iff.1 h
    by_cases hb : (xs.length + c.length) * 16 ≤ 140737488355328
    · rw [if_pos hb] at h2
      exact ⟨c, h1, hb, h2⟩
    · rw [if_neg hb] at h2; cases h2
  · rw [List.drop_eq_nil_of_le (by omega)] at h ⊢
    unfold mergeGo at h
    obtain ⟨c, h1, h2⟩ := Option.bind_eq_some_iff.1 h
    by_cases hb : (xs.length + c.length) * 16 ≤ 140737488355328
    · rw [if_pos hb] at h2
      exact ⟨c, h1, hb, h2⟩
    · rw [if_neg hb] at h2; cases h2
theorem take_rd {l0 : List S32} {i : Nat} (hi : i < l0.length) : l0.take (i + 1) = l0.take i ++ [⟨(rd_T32 l0 i).f0, (rd_T32 l0 i).f1⟩] := by
  have hr : rd_T32 l0 i = l0[i] := by simp [rd_T32, List.getD_eq_getElem?_getD, hi]
  rw [hr, List.take_succ_eq_append_getElem hi]
theorem flat_cut : ∀ (xs : List S32) (j : Nat) (p : S32), xs[j]? = some p → (((xs.map prS).flatMap SortP.encP).drop (j * 2)).take 2 = [.int .u32 p.f0, .int .i64 p.f1]
  | [], j, p, h => by simp at h
  | x :: r, 0, p, h => by
    simp only [List.getElem?_cons_zero, Option.some.injEq] at h
    subst h
    simp [SortP.encP, prS]
  | x :: r, j + 1, p, h => by
    have := flat_cut r j p (by simpa using h)
    rw [List.map_cons, List.flatMap_cons, show (j + 1) * 2 = 2 + j * 2 from by omega, ← List.drop_drop]
    simpa [SortP.encP] using this
theorem flat_reps (W : World) (base : Nat) (ok : Nat → Prop) (xs : List S32) : Reps (k32.M W base ok) 2 xs ((xs.map prS).flatMap SortP.encP) := by
  refine ⟨by rw [SortP.flat_len, List.length_map], fun j p hj => ?_⟩
  rw [flat_cut xs j p hj]
  exact k32_mkM W base ok p
theorem reps_flat {W : World} {base : Nat} {ok : Nat → Prop} : ∀ (xs : List S32) (inner : List Value), Reps (k32.M W base ok) 2 xs inner → inner = (xs.map prS).flatMap SortP.encP
  | [], inner, h => by
    have := h.1
    simp at this
    subst this
    rfl
  | x :: r, inner, h => by
    have h1 := Kd.reps_drop (m := 1) h
    have h2 := reps_flat r _ h1
    have h3 := k32_openM (h.2 0 x rfl)
    rw [Nat.zero_mul, List.drop_zero] at h3
    rw [← List.take_append_drop 2 inner, h3, h2]
    simp [SortP.encP, prS]
theorem own_of_R {W : World} {base : Nat} {ok : Nat → Prop} {v : Value} {xs : List S32} (h : Kd.R k32 32 W base ok v xs) : W.ownsRow base 32 2 v xs.length ((xs.map prS).flatMap SortP.encP) := by
  obtain ⟨_, inner, ho, hr⟩ := h
  rw [← reps_flat xs inner hr]
  exact ho
theorem R_of_own {W : World} {base : Nat} {ok : Nat → Prop} {v : Value} {xs : List S32} (h : W.ownsRow base 32 2 v xs.length ((xs.map prS).flatMap SortP.encP)) (hok : ∀ k, v.ownBlock = some k → ok k) : Kd.R k32 32 W base ok v xs :=
  ⟨hok, _, h, flat_reps _ _ _ _⟩
/-- what holds in Merge behind the sort: the box, the sorted row, the row of what is made -/
structure MSt (w : World) (Bs g n cap : Nat) (S : List S32) (v8 : Value) (xs : List S32) (w' : World) : Prop where
  blk : w'.heap[Bs]? = some (.cells #[.slice (some ⟨g, 0, none⟩) n cap] 25 (0, 0))
  len : S.length = n
  row : Kd.R k32 32 w' w.heap.size (fun k => k ≠ Bs) (.slice (some ⟨g, 0, none⟩) n cap) S
  res : Kd.R k32 32 w' w.heap.size (fun k => k ≠ Bs ∧ k ≠ g) v8 xs
  bel : Below w.heap.size w w'
theorem MSt.below {w w1 w2 : World} {Bs g n cap : Nat} {S xs : List S32} {v8 : Value} (h : Aside0 (MSt w Bs g n cap S v8 xs w1)) (hb : Below w1.heap.size w1 w2) : MSt w Bs g n cap S v8 xs w2 :=
  ⟨blk_below h.out.blk hb, h.out.len, Kd.R_below h.out.row hb, Kd.R_below h.out.res hb, below_step h.out.bel hb⟩
theorem MSt.drew {w w1 : World} {Bs g n cap : Nat} {S xs : List S32} {v8 : Value} (h : Aside0 (MSt w Bs g n cap S v8 xs w1)) : Aside0 (MSt w Bs g n cap S v8 xs w1.drew) :=
  ⟨h.out.blk, h.out.len, Kd.R_drew h.out.row, Kd.R_drew h.out.res, below_drew h.out.bel⟩
theorem MSt.grown {w w1 w2 : World} {Bs g n cap : Nat} {S xs ys : List S32} {v8 v9 : Value} (h : Aside0 (MSt w Bs g n cap S v8 xs w1)) (ho : Kd.R k32 32 w2 w.heap.size (fun k => k ≠ Bs ∧ k ≠ g) v9 ys) (hb : Below w.heap.size w w2) (hg : w1.grownBy w2 v8.ownBlock) : MSt w Bs g n cap S v9 ys w2 :=
  ⟨blk_grown h.out.blk hg (Kd.R_away h.out.res (fun _ hk => hk.1)), h.out.len, R_of_own (own_other (own_of_R h.out.row) hg (.inr fun e => (h.out.res.1 g e.symm).2 rfl)) h.out.row.1, ho, hb⟩
theorem MSt.box {w w1 : World} {Bs g n cap : Nat} {S xs : List S32} {v8 : Value} (h : MSt w Bs g n cap S v8 xs w1) : w1.cell? ⟨Bs, 0, none⟩ = some (.slice (some ⟨g, 0, none⟩) n cap) := (blk_cell h.blk 0).trans rfl
theorem MSt.at_ {w w1 : World} {Bs g n cap i : Nat} {S xs : List S32} {v8 : Value} (h : MSt w Bs g n cap S v8 xs w1) (hi : i < S.length) :
    w1.cell? ⟨g, i * 2, none⟩ = some (.int .u32 (rd_T32 S i).f0) ∧ w1.cell? ⟨g, i * 2 + 1, none⟩ = some (.int .i64 (rd_T32 S i).f1) := by
  obtain ⟨ad, e0, hx0, hx1⟩ := at_T32 (Kd.R_reads' h.row).2.2 (i : Int) (by omega) (by omega)
  obtain rfl := Option.some.inj e0
  simp only [Int.toNat_natCast, add_plain] at hx0 hx1
  exact ⟨hx0, hx1⟩
set_option maxHeartbeats 4000000 in
set_option maxRecDepth 100000 in
theorem merge_walk (k : Nat) (A0 : Option Addr) (c0 : Nat) (l0 : List S32) (r : List S32 × Int) (w : World) (hr0 : Kd.C k32 w A0 l0.length l0) (hc0 : l0.length ≤ c0) (hlen : l0.length ≤ 4096) (h : addr_Merge.f k l0 = some r) :
    Calls Try.prog 24 #[.slice A0 l0.length c0] w fun e w' => ∃ v0_ : Value, e = .returned (.tuple #[v0_, .int .i64 r.2]) ∧ Kd.R k32 32 w' w.heap.size (fun _ => True) v0_ r.1 ∧ Below w.heap.size w w' := by
  have HR0 := Aside0.mk hr0
  have HC0 := Aside0.mk hc0
  clear hr0 hc0
  have HH := Aside0.mk h
  clear h
  have HL := Aside0.mk hlen
  have hn0 : decide ((l0.length : Int) > 4096) = false := decide_eq_false (by omega)
  clear hlen
  obtain ⟨i0, hi, hz0, hz1, hz2⟩ := info_parts info32
  obtain ⟨w1, hmk, hown, hgr⟩ := run_makeSlice_owned (P := Try.prog) w w.heap.size 25 32 i0 _ 2 Try.underlying25 hi hz0 hz1 .i64 .i64 l0.length (by have := HL.out; omega) (by rw [hz2]; have := HL.out; omega) (by have := HL.out; simp [maxLen]; omega) (Nat.le_refl _)
  have hb1 : Below w.heap.size w w1 := pw_below_grown (Below.refl _ _) none (Nat.le_refl _) hgr (by simp)
  have HB1 := Aside0.mk hb1
  have HO1 := Aside0.mk hown
  clear hown hgr hb1
  have hS := HH.out
  unfold addr_Merge.f at hS
  rw [if_neg (by have := HL.out; omega)] at hS
  obtain ⟨e, hF, hS⟩ := Option.bind_eq_some_iff.1 hS
  have HF := Aside0.mk hF
  have HS := Aside0.mk hS
  clear hF hS
  have hlt1 : w.heap.size < w1.heap.size := own_lt HO1.out _ rfl
  go_enter Try.func24, Try.ntmps24
  go_wp2
  go_loopw [20] (fun v20 wr => ∃ (i g cap : Nat), v20 = .int .i64 i ∧ i ≤ l0.length ∧ wr.heap[w1.heap.size]? = some (.cells #[.slice (some ⟨g, 0, none⟩) i cap] 25 (0, 0)) ∧ Aside0 (Kd.R k32 32 wr w.heap.size (fun k => k ≠ w1.heap.size) (.slice (some ⟨g, 0, none⟩) i cap) (l0.take i)) ∧ Aside0 (faults k (l0.drop i) = some e) ∧ Aside0 (Below w.heap.size w wr)) (fun v20 _ => l0.length - (intOf v20).toNat)
  case atStart =>
    refine ⟨0, w.heap.size, l0.length, rfl, Nat.zero_le _, blk_new _ _, ⟨?_⟩, ⟨HF.out⟩, ⟨below_alloc HB1.out _⟩⟩
    exact Kd.R_alloc (R_of_own (xs := []) HO1.out (by intro k hk; simp [Value.ownBlock] at hk; omega)) _
  case round =>
    obtain ⟨i, g, cap, rfl, hi, hbox, HO, HFi, HB⟩ := hrel
    by_cases hlt : i < l0.length
    · have p0 : (0 : Int) ≤ (i : Int) := by omega
      have q0 : (i : Int) < (l0.length : Int) := by omega
      obtain ⟨ad, e0, hx0, hx1⟩ := at_T32 HR0.out i p0 q0
      subst e0
      simp only [Int.toNat_natCast] at hx0 hx1
      replace hx0 := (HB.out.cell (World.block_lt_of_cell? w _ hx0)).trans hx0
      replace hx1 := (HB.out.cell (World.block_lt_of_cell? w _ hx1)).trans hx1
      obtain ⟨e1, hf1, hf2⟩ := faults_at hlt HFi.out
      have HF1 := Aside0.mk hf1
      have HF2 := Aside0.mk hf2
      have HBOX := Aside0.mk hbox
      have hw1 : wrap64 ((i : Int) + 1) = ((i + 1 : Nat) : Int) := by unfold wrap64; have := HL.out; omega
      clear hf1 hf2 hbox
      by_cases h0 : e1 = 0
      · subst h0
        go_wp2_with (first
          | (go_at_call 36; refine (addr_fault.calls k _ _ _ _ HF1.out).mono ?_; rintro e_ w2 ⟨rfl, hb⟩
             have kb := Aside0.mk (blk_below (blk_alloc HBOX.out (.cells #[.int .u32 (rd_T32 l0 i).f0, .int .i64 (rd_T32 l0 i).f1] 32 (0, 0))) hb)
             have kp := Aside0.mk (blk_below (blk_new wr (.cells #[.int .u32 (rd_T32 l0 i).f0, .int .i64 (rd_T32 l0 i).f1] 32 (0, 0))) hb)
             have kb0 : w2.cell? ⟨w1.heap.size, 0, none⟩ = some (.slice (some ⟨g, 0, none⟩) i cap) := (blk_cell kb.out 0).trans rfl
             have kp0 : w2.cell? ⟨wr.heap.size, 0, none⟩ = some (.int .u32 (rd_T32 l0 i).f0) := (blk_cell kp.out 0).trans rfl
             have kp1 : w2.cell? ⟨wr.heap.size, 1, none⟩ = some (.int .i64 (rd_T32 l0 i).f1) := (blk_cell kp.out 1).trans rfl
             have HO2 := Aside0.mk (Kd.R_below (Kd.R_alloc HO.out (.cells #[.int .u32 (rd_T32 l0 i).f0, .int .i64 (rd_T32 l0 i).f1] 32 (0, 0))) hb)
             have HB2 := Aside0.mk (below_step (below_alloc HB.out (.cells #[.int .u32 (rd_T32 l0 i).f0, .int .i64 (rd_T32 l0 i).f1] 32 (0, 0))) hb)
             clear hb)
          | ((with_reducible refine gate_builtin (b := .append) (xs := #[.tmp 29, .tmp 31]) rfl ?_); at_builtin
             refine Kd.R_append k32 (w0 := w) w.heap.size rfl (.tmp 29) (.tmp 31) 25 32 (.agg #[(.int .u32 0), (.int .i64 0)]) 16 rfl Try.underlying25 info32 rfl (by decide) (by omega) (.slice (some ⟨g, 0, none⟩) i cap) (l0.take i) (⟨(rd_T32 l0 i).f0, (rd_T32 l0 i).f1⟩ : S32) [.int .u32 ((rd_T32 l0 i).f0), .int .i64 ((rd_T32 l0 i).f1)] (fun k_ => k_ ≠ w1.heap.size) (fun _ => False) rfl rfl (k32_mkM _ _ _ (⟨(rd_T32 l0 i).f0, (rd_T32 l0 i).f1⟩ : S32)) (fun _ hk => hk.elim) (Kd.freshB kb.out) HO2.out HB2.out (below_size HB2.out) (by have := HL.out; rw [List.length_take]; omega) ?_
             intro v3 w3 ho hb hg hat
             rw [← take_rd hlt] at ho
             obtain ⟨g3, cap3, e3, _⟩ := Kd.R_form ho (by rw [List.length_take]; omega)
             rw [show (l0.take (i + 1)).length = i + 1 from by rw [List.length_take]; omega] at e3
             subst e3
             have kb3 := Aside0.mk (blk_grown kb.out hg (Kd.R_away HO2.out (fun _ hk => hk)))
             have fb3 := blk_frozen kb3.out 0
             have kc3 : w3.cell? ⟨w1.heap.size, 0, none⟩ = some (.slice (some ⟨g, 0, none⟩) i cap) := (blk_cell kb3.out 0).trans rfl
             have HO3 := Aside0.mk ho
             have HB3 := Aside0.mk hb
             clear ho hb hg hat))
        go_roundw
        case rel =>
          exact ⟨i + 1, g3, cap3, by rw [hw1], by omega, blk_put kb3.out 0 _ rfl, ⟨Kd.R_far HO3.out (fun _ hk => hk) _⟩, ⟨by simpa using HF2.out⟩, ⟨below_set HB3.out (by omega)⟩⟩
        case measure => rw [hw1]; exact meas_up hlt
      · have b1 : (e1 != 0) = true := by simp [h0]
        go_wp2_with (go_at_call 36; refine (addr_fault.calls k _ _ _ _ HF1.out).mono ?_; rintro e_ w2 ⟨rfl, hb⟩
                     have HB2 := Aside0.mk (below_step (below_alloc HB.out (.cells #[.int .u32 (rd_T32 l0 i).f0, .int .i64 (rd_T32 l0 i).f1] 32 (0, 0))) hb)
                     clear hb)
        refine bodyPost_ret (v := .tuple #[.slice none 0 0, .int .i64 e1]) (by simp [results, Try.results24, go_sem]) rfl ?_
        have hS := HS.out
        have h2 := HF2.out
        rw [if_neg h0] at h2
        obtain rfl := Option.some.inj h2
        rw [if_neg h0] at hS
        obtain rfl := Option.some.inj hS
        exact ⟨_, rfl, Kd.R_nil _ _ _ _ _, HB2.out⟩
    · obtain rfl : i = l0.length := by omega
      have hS := HS.out
      have h2 := HFi.out
      rw [List.drop_length] at h2
      obtain rfl := Option.some.inj h2
      rw [if_pos rfl] at hS
      obtain ⟨out, hM, hS⟩ := Option.bind_eq_some_iff.1 hS
      obtain rfl := Option.some.inj hS
      have HM := Aside0.mk hM
      have HBOX := Aside0.mk hbox
      have kb0 : wr.cell? ⟨w1.heap.size, 0, none⟩ = some (.slice (some ⟨g, 0, none⟩) l0.length cap) := (blk_cell hbox 0).trans rfl
      clear hS h2 hM hbox HS HFi HF hlt
      have hrow := own_of_R HO.out
      rw [List.take_length] at hrow
      have hg1 : w1.heap.size ≠ g := fun e => by have := HO.out.1 g rfl; omega
      go_wp2_with (go_at_call 37; refine (SortP.sort_own hrow (by have := HL.out; omega) kb0 (blk_lt HBOX.out) hg1).mono ?_; rintro e_ w2 ⟨rfl, hrow2, hkeep, hb2⟩
                   have HROW := Aside0.mk hrow2
                   have HBOX2 := Aside0.mk ((hkeep _ (blk_lt HBOX.out) hg1).trans HBOX.out)
                   have HB2 := Aside0.mk (HB.out.trans hb2)
                   clear hrow2 hkeep hb2)
      have hsl : (srtS l0).length = l0.length := by unfold srtS; rw [List.length_map, SortP.srt_len, List.length_map]
      have hsm : (srtS l0).map prS = SortP.srt (l0.map prS) := by unfold srtS; rw [List.map_map]; exact List.map_id _
      have HR2 : Aside0 (Kd.R k32 32 w2 w.heap.size (fun k => k ≠ w1.heap.size) (.slice (some ⟨g, 0, none⟩) l0.length cap) (srtS l0)) := ⟨R_of_own (by rw [hsm, hsl]; exact HROW.out) (by intro k hk; simp [Value.ownBlock] at hk; omega)⟩
      have HS3 : Aside0 (MSt w w1.heap.size g l0.length cap (srtS l0) (.slice none 0 0) [] w2) := ⟨HBOX2.out, hsl, HR2.out, Kd.R_nil _ _ _ _ _, HB2.out⟩
      generalize hS0 : srtS l0 = S at *
      clear HROW HBOX2 HB2 HR2 HBOX HB HO hrow kb0 HH hsm
      go_loopw [8, 9, 10, 11] (fun v8 v9 _ _ w3 => ∃ (i : Nat) (xs : List S32), v9 = .int .i64 i ∧ i ≤ l0.length ∧ Aside0 (MSt w w1.heap.size g l0.length cap S v8 xs w3) ∧ Aside0 (mergeOut k (S.drop i) xs = some out)) (fun _ v9 _ _ _ => l0.length - (intOf v9).toNat)
      case atStart => exact ⟨0, [], rfl, Nat.zero_le _, HS3, HM⟩
      case round =>
        clear HS3 HM
        obtain ⟨i, xs, rfl, hi, HS3, HM3⟩ := hrel
        have kb3 := HS3.out.box
        by_cases hlt : i < l0.length
        · have hltS : i < S.length := by omega
          obtain ⟨e2, hE, hG⟩ := mergeOut_at hltS HM3.out
          have HE := Aside0.mk hE
          have HG := Aside0.mk hG
          have hw1 : wrap64 ((i : Int) + 1) = ((i + 1 : Nat) : Int) := by unfold wrap64; have := HL.out; omega
          have kx := HS3.out.at_ hltS
          obtain ⟨kx0, kx1⟩ := kx
          clear hE hG HM3
          go_wp2
          go_region_held3 (fun w' => w'.cell? ⟨w1.heap.size, 0, none⟩ = some (.slice (some ⟨g, 0, none⟩) l0.length cap) ∧ w'.cell? ⟨g, i * 2, none⟩ = some (.int .u32 (rd_T32 S i).f0) ∧ w'.cell? ⟨g, i * 2 + 1, none⟩ = some (.int .i64 (rd_T32 S i).f1) ∧ Aside0 (MSt w w1.heap.size g l0.length cap S u8 xs w'))
            (first | exact ⟨kb4, kx4, ky4, HS4⟩ | exact ⟨kb3, kx0, kx1, MSt.drew HS3⟩)
            (first | (go_at_call 31; refine (addr_last.calls _ _ _ _ HE.out).mono ?_; rintro e_ w4 ⟨rfl, hb⟩; have HS4 := Aside0.mk (MSt.below (by exact MSt.drew HS3) hb); have kb4 := HS4.out.box; have kx4 := (HS4.out.at_ hltS).1; have ky4 := (HS4.out.at_ hltS).2; clear hb))
          clear kb3 kx0 kx1 kx4 ky4 HS3
          go_wp2
          clear kb4
          go_loopw [9, 11] (fun v9 v11 w5 => ∃ (j : Nat) (hh : Int), v9 = .int .i64 j ∧ v11 = .int .u32 hh ∧ i < j ∧ j ≤ l0.length ∧ Aside0 (MSt w w1.heap.size g l0.length cap S u8 xs w5) ∧ Aside0 (mergeGo k (S.drop j) (rd_T32 S i).f0 hh xs = some out)) (fun v9 _ _ => l0.length - (intOf v9).toNat)
          case atStart => exact ⟨i + 1, e2, by rw [hw1], rfl, by omega, by omega, HS4, HG⟩
          case round =>
            clear HS4 HG HE hw1
            obtain ⟨j, hh, rfl, rfl, hij, hj, HS5, HG5⟩ := hrel
            have kb5 := HS5.out.box
            by_cases hgo : ∃ _ : j < S.length, hh = 4294967295 ∨ (rd_T32 S j).f0 ≤ (hh + 1) % 4294967296
            · obtain ⟨hjS, hc⟩ := hgo
              have hjl : j < l0.length := by omega
              obtain ⟨kx5, ky5⟩ := HS5.out.at_ hjS
              have hw2 : wrap64 ((j : Int) + 1) = ((j + 1 : Nat) : Int) := by unfold wrap64; have := HL.out; omega
              obtain ⟨e6, hE, hG⟩ := mergeGo_in hjS hc HG5.out
              have HE := Aside0.mk hE
              have HG6 := Aside0.mk hG
              clear hE hG HG5
              have hcc : hh = 4294967295 ∨ hh ≠ 4294967295 ∧ (rd_T32 S j).f0 ≤ (hh + 1) % 4294967296 := by
                rcases Decidable.em (hh = 4294967295) with h | h
                · exact .inl h
                · exact .inr ⟨h, hc.resolve_left h⟩
              clear hc
              rcases hcc with hc | ⟨hc1, hc2⟩
              · subst hc
                go_wp2_with (go_at_call 31; refine (addr_last.calls _ _ _ _ HE.out).mono ?_; rintro e_ w4 ⟨rfl, hb⟩
                             have HS6 := Aside0.mk (MSt.below HS5 hb)
                             clear hb)
                go_roundw
                case rel => exact ⟨j + 1, _, by rw [hw2], rfl, by omega, by omega, HS6, by have h := HG6; rwa [max_if] at h⟩
                case measure => rw [hw2]; exact meas_up hjl
              · have b1 : (hh == 4294967295) = false := by simp [hc1]
                have b2 : decide ((rd_T32 S j).f0 ≤ (hh + 1) % 4294967296) = true := decide_eq_true hc2
                clear hc1 hc2
                go_wp2_with (go_at_call 31; refine (addr_last.calls _ _ _ _ HE.out).mono ?_; rintro e_ w4 ⟨rfl, hb⟩
                             have HS6 := Aside0.mk (MSt.below HS5 hb)
                             clear hb)
                go_roundw
                case rel => exact ⟨j + 1, _, by rw [hw2], rfl, by omega, by omega, HS6, by have h := HG6; rwa [max_if] at h⟩
                case measure => rw [hw2]; exact meas_up hjl
            · obtain ⟨cs, hC, hlen, hG⟩ := mergeGo_out (fun h1 h2 => hgo ⟨h1, h2⟩) HG5.out
              have HC := Aside0.mk hC
              have HLN := Aside0.mk hlen
              have HG6 := Aside0.mk hG
              clear hC hG hlen HG5
              have hcc : (∃ _ : j < S.length, hh ≠ 4294967295 ∧ ¬ (rd_T32 S j).f0 ≤ (hh + 1) % 4294967296) ∨ ¬ j < l0.length := by
                rcases Decidable.em (j < S.length) with h | h
                · exact .inl ⟨h, fun e => hgo ⟨h, .inl e⟩, fun e => hgo ⟨h, .inr e⟩⟩
                · exact .inr (by omega)
              clear hgo
              rcases hcc with ⟨hjS, hc1, hc2⟩ | hjl
              · have hjl : j < l0.length := by omega
                have b1 : (hh == 4294967295) = false := by simp [hc1]
                have b2 : decide ((rd_T32 S j).f0 ≤ (hh + 1) % 4294967296) = false := decide_eq_false hc2
                obtain ⟨kx5, ky5⟩ := HS5.out.at_ hjS
                clear hc1 hc2
                go_wp2_with (first
                  | (go_at_call 10; refine (addr_Cover.calls k _ _ _ _ HC.out).mono ?_; rintro e_ w4 ⟨vc, rfl, hrc, hb⟩
                     obtain ⟨inn, hown⟩ := Kd.R_own hrc
                     obtain ⟨Ac, cc, hvc⟩ := own_slice hown
                     subst hvc
                     have HRC := Aside0.mk hrc
                     have HS6 := Aside0.mk (MSt.below HS5 hb)
                     clear hb hrc hown)
                  | ((with_reducible refine gate_builtin (b := .append) (xs := #[.tmp 81, .tmp 84]) rfl ?_); at_builtin
                     refine Kd.R_append_rows k32 (w0 := w) w.heap.size rfl (.tmp 81) (.tmp 84) 25 32 (.agg #[(.int .u32 0), (.int .i64 0)]) 16 rfl Try.underlying25 info32 rfl (by decide) (by omega) _ xs cs Ac cs.length cc (fun k => k ≠ w1.heap.size ∧ k ≠ g) (fun _ => False) rfl rfl HS6.out.res (Kd.R_reads' HRC.out).2.2 (fun x c_ hk => by rw [k32_open hk]; exact k32_mkM _ _ _ x) (fun _ hk => hk.elim) (fun k hk => ⟨fun e => by have := blk_lt HS6.out.blk; omega, fun e => by have := Kd.R_lt HS6.out.row g rfl; omega⟩) HS6.out.bel (below_size HS6.out.bel) HLN.out ?_
                     intro v7 w7 ho hb hg hat
                     have HS7 := Aside0.mk (MSt.grown HS6 ho hb hg)
                     clear ho hb hg hat))
                go_roundw
                case rel => exact ⟨j, _, rfl, by omega, HS7, HG6⟩
                case measure => simp [intOf]; omega
              · have b0 : decide ((j : Int) < (l0.length : Int)) = false := decide_eq_false (by omega)
                go_wp2_with (first
                  | (go_at_call 10; refine (addr_Cover.calls k _ _ _ _ HC.out).mono ?_; rintro e_ w4 ⟨vc, rfl, hrc, hb⟩
                     obtain ⟨inn, hown⟩ := Kd.R_own hrc
                     obtain ⟨Ac, cc, hvc⟩ := own_slice hown
                     subst hvc
                     have HRC := Aside0.mk hrc
                     have HS6 := Aside0.mk (MSt.below HS5 hb)
                     clear hb hrc hown)
                  | ((with_reducible refine gate_builtin (b := .append) (xs := #[.tmp 81, .tmp 84]) rfl ?_); at_builtin
                     refine Kd.R_append_rows k32 (w0 := w) w.heap.size rfl (.tmp 81) (.tmp 84) 25 32 (.agg #[(.int .u32 0), (.int .i64 0)]) 16 rfl Try.underlying25 info32 rfl (by decide) (by omega) _ xs cs Ac cs.length cc (fun k => k ≠ w1.heap.size ∧ k ≠ g) (fun _ => False) rfl rfl HS6.out.res (Kd.R_reads' HRC.out).2.2 (fun x c_ hk => by rw [k32_open hk]; exact k32_mkM _ _ _ x) (fun _ hk => hk.elim) (fun k hk => ⟨fun e => by have := blk_lt HS6.out.blk; omega, fun e => by have := Kd.R_lt HS6.out.row g rfl; omega⟩) HS6.out.bel (below_size HS6.out.bel) HLN.out ?_
                     intro v7 w7 ho hb hg hat
                     have HS7 := Aside0.mk (MSt.grown HS6 ho hb hg)
                     clear ho hb hg hat))
                go_roundw
                case rel => exact ⟨j, _, rfl, by omega, HS7, HG6⟩
                case measure => simp [intOf]; omega
        · obtain rfl : i = l0.length := by omega
          have hM := HM3.out
          rw [List.drop_eq_nil_of_le (by omega)] at hM
          obtain rfl := Option.some.inj hM
          clear hM HM3
          go_wp2
          refine bodyPost_ret (v := .tuple #[_, .int .i64 0]) (by simp [results, Try.results24, go_sem]; rfl) rfl ?_
          exact ⟨_, rfl, Kd.R_mono HS3.out.res (fun _ _ => trivial), HS3.out.bel⟩
set_option maxHeartbeats 4000000 in
set_option maxRecDepth 100000 in
theorem addr_Merge.calls (k : Nat) (A0 : Option Addr) (c0 : Nat) (l0 : List S32) (r1 : List S32) (r2 : Int) (w : World) (hr0 : Kd.C k32 w A0 l0.length l0) (hc0 : l0.length ≤ c0) (h : addr_Merge.f k l0 = some (r1, r2)) :
    Calls Try.prog 24 #[.slice A0 l0.length c0] w fun e w' => ∃ v0_ : Value, e = .returned (.tuple #[v0_, .int .i64 r2]) ∧ Kd.R k32 32 w' w.heap.size (fun _ => True) v0_ r1 ∧ Below w.heap.size w w' := by
  by_cases hlen : l0.length ≤ 4096
  · exact merge_walk k A0 c0 l0 (r1, r2) w hr0 hc0 hlen h
  · unfold addr_Merge.f at h
    rw [if_pos (by omega)] at h
    injection h with h
    injection h with h1 h2
    subst h1; subst h2
    have hn0 : decide ((l0.length : Int) > 4096) = true := decide_eq_true (by omega)
    go_enter Try.func24, Try.ntmps24
    go_wp2
    refine bodyPost_ret (v := .tuple #[.slice none 0 0, .int .i64 2]) (by simp [results, Try.results24, go_sem]) rfl ?_
    exact ⟨_, rfl, Kd.R_nil _ _ _ _ _, Below.refl _ _⟩

/-! ### weftlaw1_mark: function 29 -/
def weftlaw1_mark.f (a0 : Int) : Option (Int × Int) := some ((a0) % 4294967296, wrap64 (40 + a0))
set_option maxHeartbeats 8000000 in
set_option maxRecDepth 100000 in
theorem weftlaw1_mark.calls (a0 : Int) (r1 : Int) (r2 : Int) (w : World) (h : weftlaw1_mark.f a0 = some (r1, r2)) :
    Calls Try.prog 29 #[.int .i64 a0] w fun e w' => e = .returned (.agg #[.int .u32 r1, .int .i64 r2]) ∧ Below w.heap.size w w' := by
  have hu32 := Try.underlying32
  have HB := Aside0.mk (Below.refl w.heap.size w)
  have H : (some ((a0) % 4294967296, wrap64 (40 + a0))) = some (r1, r2) := h
  clear h
  simp only [Option.some.injEq, Prod.mk.injEq] at H
  obtain ⟨rfl, rfl⟩ := H
  go_enter Try.func29, Try.ntmps29
  go_wp2_with (first | ((with_reducible refine gate_dst (N := 2) rfl ?_); refine box_event ?hg (N := 2) ?hd (cs := #[.int .u32 0, .int .i64 0]) (t := 32) ?hr ?_; (case hd => rfl); (case hg => rfl); (case hr => first | (go_simp; done) | (go_simp; rfl)); intro gb142 hg w2 hbox hb; have n0_ := Aside0.mk (below_step (by repeat (first | (with_reducible first | exact HB.out | apply below_alloc | apply pw_below_drewN | apply below_drew1) | exact HB.out)) hb); have n1_ := Aside0.mk (hbox); have n2_ := Aside0.mk ((by rw [hg]; exact (below_size (by repeat (first | (with_reducible first | exact HB.out | apply below_alloc | apply pw_below_drewN | apply below_drew1) | exact HB.out))) : w.heap.size ≤ gb142)); have n3_ := Aside0.mk ((by rw [hg]; exact (below_size (by repeat (first | (with_reducible first | exact HB.out | apply below_alloc | apply pw_below_drewN | apply below_drew1) | exact HB.out))) : w.heap.size ≤ gb142)); clear HB; have HB := n0_; have BK142 := n1_; have GW142 := n2_; have GE142 := n3_; clear n0_ n1_ n2_ n3_; clear hb hbox hg; have hcz3_0 : w2.cell? ⟨gb142, 0, none⟩ = some (.int .u32 0) := (blk_cell BK142.out 0).trans rfl; have hcz3_1 : w2.cell? ⟨gb142, 1, none⟩ = some (.int .i64 0) := (blk_cell BK142.out 1).trans rfl; have hfz3_0 := blk_frozen BK142.out 0; have hfz3_1 := blk_frozen BK142.out 1))
  refine bodyPost_ret (results_cell_row rfl _ _ gb142 32 #[.int .u32 ((a0) % 4294967296), .int .i64 (wrap64 (40 + a0))] (0, 0) _ rfl (by (with_reducible repeat (first | refine blk_drewN ?_ _ | refine blk_drew ?_ | refine blk_alloc ?_ _)); refine blk_put (cs := #[.int .u32 ((a0) % 4294967296), .int .i64 0]) ?_ 1 _ rfl; (with_reducible repeat (first | refine blk_drewN ?_ _ | refine blk_drew ?_ | refine blk_alloc ?_ _)); refine blk_put (cs := #[.int .u32 0, .int .i64 0]) ?_ 0 _ rfl; (with_reducible repeat (first | refine blk_drewN ?_ _ | refine blk_drew ?_ | refine blk_alloc ?_ _)); exact BK142.out) Try.underlying32 rfl (by kernel_rfl)) rfl ?_
  exact ⟨by first | rfl | (simp [errW_none, errW_some] <;> rfl) | (simp [*, errW_none, errW_some] <;> rfl), by repeat (first | (with_reducible first | exact HB.out | apply below_alloc | apply pw_below_drewN | apply below_drew1 | refine below_set ?_ GE142.out) | exact HB.out)⟩

end Go.Proofs.Ytncpcjphljfcpaa.PNmm
