-- written by xp.sh, a program of this seat's session
import Derived.Test.YtncpcjphljfcpaaPMrgx0
import Derived.Test.YtncpcjphljfcpaaPMrgx3
import Derived.Test.YtncpcjphljfcpaaPMrgx4
namespace Go.Proofs.Ytncpcjphljfcpaa.PMrg
open Go.RowKit Go.Proofs.YtncpcjphljfcpaaW.PrintWords Go.Proofs.YtncpcjphljfcpaaW.PrintLast Go.Proofs.YtncpcjphljfcpaaW.PrintMore
attribute [local go_sem] max2_int min2_int max_two min_two max_three min_three max_four min_four   -- for this text's walks alone
set_option linter.unusedVariables false
set_option linter.unusedSimpArgs false

/-! ### weftlaw1_agree: function 27 -/
mutual
def weftlaw1_agree.j1 : Nat → List (S32) → List (S32) → List Int → Option (Bool)
  | 0, _, _, _ => none
  | k + 1, x0, x1, x7 => weftlaw1_agree.l1 k x0 x1 x7 0
def weftlaw1_agree.j3 : Nat → List (S32) → List (S32) → List Int → Option (Bool)
  | 0, _, _, _ => none
  | k + 1, x0, x1, x7 => weftlaw1_agree.l2 k x0 x1 x7 0
def weftlaw1_agree.l2 : Nat → List (S32) → List (S32) → List Int → Int → Option (Bool)
  | 0, _, _, _, _ => none
  | k + 1, x0, x1, x7, x14 => if x14 < (x7.length : Int) then (if 0 ≤ x14 then ((weftlaw1_had.f k x0 (rd x7 x14)).bind fun t154 => ((weftlaw1_had.f k x1 (rd x7 x14)).bind fun t156 => (if (t154 != t156) = true then (some false) else (weftlaw1_agree.l2 k x0 x1 x7 (wrap64 (x14 + 1)))))) else (none)) else (some true)
def weftlaw1_agree.l1 : Nat → List (S32) → List (S32) → List Int → Int → Option (Bool)
  | 0, _, _, _, _ => none
  | k + 1, x0, x1, x7, x11 => if x11 < (x1.length : Int) then (if x11 < 40 then (if 0 ≤ x11 then ((weftlaw1_block.f k ((rd_T32 x1 x11).f0) ((rd_T32 x1 x11).f1)).bind fun bt145 => ((some (([bt145.1, bt145.2, wrap64 (bt145.1 - 1), wrap64 (bt145.2 + 1)] : List Int) : List Int)).bind fun y147 => (if x7.length + y147.length < 17592186044416 then (weftlaw1_agree.l1 k x0 x1 (x7 ++ y147) (wrap64 (x11 + 1))) else (none)))) else (none)) else (weftlaw1_agree.j3 k x0 x1 x7)) else (weftlaw1_agree.j3 k x0 x1 x7)
def weftlaw1_agree.l0 : Nat → List (S32) → List (S32) → List Int → Int → Option (Bool)
  | 0, _, _, _, _ => none
  | k + 1, x0, x1, x7, x8 => if x8 < (x0.length : Int) then (if x8 < 40 then (if 0 ≤ x8 then ((weftlaw1_block.f k ((rd_T32 x0 x8).f0) ((rd_T32 x0 x8).f1)).bind fun bt136 => ((some (([bt136.1, bt136.2, wrap64 (bt136.1 - 1), wrap64 (bt136.2 + 1)] : List Int) : List Int)).bind fun y138 => (if x7.length + y138.length < 17592186044416 then (weftlaw1_agree.l0 k x0 x1 (x7 ++ y138) (wrap64 (x8 + 1))) else (none)))) else (none)) else (weftlaw1_agree.j1 k x0 x1 x7)) else (weftlaw1_agree.j1 k x0 x1 x7)
end
def weftlaw1_agree.f (k : Nat) (l0 : List (S32)) (l1 : List (S32)) (a2 : Int) : Option (Bool) := if ([] : List Int).length < 17592186044416 then (weftlaw1_agree.l0 k l0 l1 (([] : List Int) ++ [a2]) 0) else (none)
theorem weftlaw1_agree.mono_l : ∀ k, (∀ y0 y1 y2, LeO (weftlaw1_agree.j1 k y0 y1 y2) (weftlaw1_agree.j1 (k + 1) y0 y1 y2)) ∧ (∀ y0 y1 y2, LeO (weftlaw1_agree.j3 k y0 y1 y2) (weftlaw1_agree.j3 (k + 1) y0 y1 y2)) ∧ (∀ y0 y1 y2 y3, LeO (weftlaw1_agree.l2 k y0 y1 y2 y3) (weftlaw1_agree.l2 (k + 1) y0 y1 y2 y3)) ∧ (∀ y0 y1 y2 y3, LeO (weftlaw1_agree.l1 k y0 y1 y2 y3) (weftlaw1_agree.l1 (k + 1) y0 y1 y2 y3)) ∧ (∀ y0 y1 y2 y3, LeO (weftlaw1_agree.l0 k y0 y1 y2 y3) (weftlaw1_agree.l0 (k + 1) y0 y1 y2 y3))
  | 0 => ⟨fun _ _ _ r h => by simp [weftlaw1_agree.j1] at h, fun _ _ _ r h => by simp [weftlaw1_agree.j3] at h, fun _ _ _ _ r h => by simp [weftlaw1_agree.l2] at h, fun _ _ _ _ r h => by simp [weftlaw1_agree.l1] at h, fun _ _ _ _ r h => by simp [weftlaw1_agree.l0] at h⟩
  | k + 1 => by
    obtain ⟨ih0, ih1, ih2, ih3, ih4⟩ := weftlaw1_agree.mono_l k
    refine ⟨?_, ?_, ?_, ?_, ?_⟩
    · intro y0 y1 y2
      unfold weftlaw1_agree.j1
      repeat' first
      | (with_reducible exact ih0 _ _ _)
      | (with_reducible exact ih1 _ _ _)
      | (with_reducible exact ih2 _ _ _ _)
      | (with_reducible exact ih3 _ _ _ _)
      | (with_reducible exact ih4 _ _ _ _)
      | (with_reducible exact weftlaw1_block.mono _ _ _)
      | (with_reducible exact weftlaw1_had.mono _ _ _)
      | (with_reducible exact LeO.refl _)
      | (with_reducible exact LeO.none _)
      | (with_reducible refine LeO.ite ?_ ?_)
      | (with_reducible refine LeO.bind ?_ (fun _ => ?_))
      | exact ih0 _ _ _
      | exact ih1 _ _ _
      | exact ih2 _ _ _ _
      | exact ih3 _ _ _ _
      | exact ih4 _ _ _ _
      | exact weftlaw1_block.mono _ _ _
      | exact weftlaw1_had.mono _ _ _
      | exact LeO.none _
      | refine LeO.ite ?_ ?_
      | refine LeO.bind ?_ (fun _ => ?_)
    · intro y0 y1 y2
      unfold weftlaw1_agree.j3
      repeat' first
      | (with_reducible exact ih0 _ _ _)
      | (with_reducible exact ih1 _ _ _)
      | (with_reducible exact ih2 _ _ _ _)
      | (with_reducible exact ih3 _ _ _ _)
      | (with_reducible exact ih4 _ _ _ _)
      | (with_reducible exact weftlaw1_block.mono _ _ _)
      | (with_reducible exact weftlaw1_had.mono _ _ _)
      | (with_reducible exact LeO.refl _)
      | (with_reducible exact LeO.none _)
      | (with_reducible refine LeO.ite ?_ ?_)
      | (with_reducible refine LeO.bind ?_ (fun _ => ?_))
      | exact ih0 _ _ _
      | exact ih1 _ _ _
      | exact ih2 _ _ _ _
      | exact ih3 _ _ _ _
      | exact ih4 _ _ _ _
      | exact weftlaw1_block.mono _ _ _
      | exact weftlaw1_had.mono _ _ _
      | exact LeO.none _
      | refine LeO.ite ?_ ?_
      | refine LeO.bind ?_ (fun _ => ?_)
    · intro y0 y1 y2 y3
      unfold weftlaw1_agree.l2
      repeat' first
      | (with_reducible exact ih0 _ _ _)
      | (with_reducible exact ih1 _ _ _)
      | (with_reducible exact ih2 _ _ _ _)
      | (with_reducible exact ih3 _ _ _ _)
      | (with_reducible exact ih4 _ _ _ _)
      | (with_reducible exact weftlaw1_block.mono _ _ _)
      | (with_reducible exact weftlaw1_had.mono _ _ _)
      | (with_reducible exact LeO.refl _)
      | (with_reducible exact LeO.none _)
      | (with_reducible refine LeO.ite ?_ ?_)
      | (with_reducible refine LeO.bind ?_ (fun _ => ?_))
      | exact ih0 _ _ _
      | exact ih1 _ _ _
      | exact ih2 _ _ _ _
      | exact ih3 _ _ _ _
      | exact ih4 _ _ _ _
      | exact weftlaw1_block.mono _ _ _
      | exact weftlaw1_had.mono _ _ _
      | exact LeO.none _
      | refine LeO.ite ?_ ?_
      | refine LeO.bind ?_ (fun _ => ?_)
    · intro y0 y1 y2 y3
      unfold weftlaw1_agree.l1
      repeat' first
      | (with_reducible exact ih0 _ _ _)
      | (with_reducible exact ih1 _ _ _)
      | (with_reducible exact ih2 _ _ _ _)
      | (with_reducible exact ih3 _ _ _ _)
      | (with_reducible exact ih4 _ _ _ _)
      | (with_reducible exact weftlaw1_block.mono _ _ _)
      | (with_reducible exact weftlaw1_had.mono _ _ _)
      | (with_reducible exact LeO.refl _)
      | (with_reducible exact LeO.none _)
      | (with_reducible refine LeO.ite ?_ ?_)
      | (with_reducible refine LeO.bind ?_ (fun _ => ?_))
      | exact ih0 _ _ _
      | exact ih1 _ _ _
      | exact ih2 _ _ _ _
      | exact ih3 _ _ _ _
      | exact ih4 _ _ _ _
      | exact weftlaw1_block.mono _ _ _
      | exact weftlaw1_had.mono _ _ _
      | exact LeO.none _
      | refine LeO.ite ?_ ?_
      | refine LeO.bind ?_ (fun _ => ?_)
    · intro y0 y1 y2 y3
      unfold weftlaw1_agree.l0
      repeat' first
      | (with_reducible exact ih0 _ _ _)
      | (with_reducible exact ih1 _ _ _)
      | (with_reducible exact ih2 _ _ _ _)
      | (with_reducible exact ih3 _ _ _ _)
      | (with_reducible exact ih4 _ _ _ _)
      | (with_reducible exact weftlaw1_block.mono _ _ _)
      | (with_reducible exact weftlaw1_had.mono _ _ _)
      | (with_reducible exact LeO.refl _)
      | (with_reducible exact LeO.none _)
      | (with_reducible refine LeO.ite ?_ ?_)
      | (with_reducible refine LeO.bind ?_ (fun _ => ?_))
      | exact ih0 _ _ _
      | exact ih1 _ _ _
      | exact ih2 _ _ _ _
      | exact ih3 _ _ _ _
      | exact ih4 _ _ _ _
      | exact weftlaw1_block.mono _ _ _
      | exact weftlaw1_had.mono _ _ _
      | exact LeO.none _
      | refine LeO.ite ?_ ?_
      | refine LeO.bind ?_ (fun _ => ?_)
theorem weftlaw1_agree.mono : ∀ a0 a1 a2 k, LeO (weftlaw1_agree.f k a0 a1 a2) (weftlaw1_agree.f (k + 1) a0 a1 a2) := by
  intro a0 a1 a2 k
  obtain ⟨ih0, ih1, ih2, ih3, ih4⟩ := weftlaw1_agree.mono_l k
  unfold weftlaw1_agree.f
  repeat' first
      | (with_reducible exact ih0 _ _ _)
      | (with_reducible exact ih1 _ _ _)
      | (with_reducible exact ih2 _ _ _ _)
      | (with_reducible exact ih3 _ _ _ _)
      | (with_reducible exact ih4 _ _ _ _)
      | (with_reducible exact weftlaw1_block.mono _ _ _)
      | (with_reducible exact weftlaw1_had.mono _ _ _)
      | (with_reducible exact LeO.refl _)
      | (with_reducible exact LeO.none _)
      | (with_reducible refine LeO.ite ?_ ?_)
      | (with_reducible refine LeO.bind ?_ (fun _ => ?_))
      | exact ih0 _ _ _
      | exact ih1 _ _ _
      | exact ih2 _ _ _ _
      | exact ih3 _ _ _ _
      | exact ih4 _ _ _ _
      | exact weftlaw1_block.mono _ _ _
      | exact weftlaw1_had.mono _ _ _
      | exact LeO.none _
      | refine LeO.ite ?_ ?_
      | refine LeO.bind ?_ (fun _ => ?_)
set_option maxHeartbeats 8000000 in
set_option maxRecDepth 100000 in
theorem weftlaw1_agree.calls (k : Nat) (A0 : Option Addr) (c0 : Nat) (l0 : List (S32)) (A1 : Option Addr) (c1 : Nat) (l1 : List (S32)) (a2 : Int) (r : Bool) (w : World) (hr0 : Kd.C k32 w A0 l0.length l0) (hc0 : l0.length ≤ c0) (hr1 : Kd.C k32 w A1 l1.length l1) (hc1 : l1.length ≤ c1) (h : weftlaw1_agree.f k l0 l1 a2 = some r) :
    Calls Try.prog 27 #[.slice A0 l0.length c0, .slice A1 l1.length c1, .int .i64 a2] w fun e w' => e = .returned (.bool r) ∧ Below w.heap.size w w' := by
  have hu32 := Try.underlying32
  have HR0 := Aside0.mk hr0
  have HC0 := Aside0.mk hc0
  clear hr0 hc0
  have HR1 := Aside0.mk hr1
  have HC1 := Aside0.mk hc1
  clear hr1 hc1
  have HB := Aside0.mk (Below.refl w.heap.size w)
  have H : (if ([] : List Int).length < 17592186044416 then (weftlaw1_agree.l0 k l0 l1 (([] : List Int) ++ [a2]) 0) else (none)) = some r := h
  clear h
  by_cases c4 : ([] : List Int).length < 17592186044416
  · rw [if_pos c4] at H
    have LMc4 := Aside0.mk c4
    clear c4
    obtain ⟨y132, hy132⟩ : ∃ y_ : List Int, y_ = (([] : List Int) ++ [a2]) := ⟨_, rfl⟩
    replace H : (weftlaw1_agree.l0 k l0 l1 y132 0) = some r := by first | (rw [hy132]; with_reducible exact H) | (have H2_ := (Option.bind_some _ _).symm.trans H; rw [hy132]; with_reducible exact H2_) | (have H2_ := (Option.bind_some _ _).symm.trans H; with_reducible exact H2_) | with_reducible exact H | (rw [hy132]; exact H) | exact H
    have Ny132 := Aside0.mk hy132
    clear hy132
    have HC5 := Aside0.mk H
    clear H
    go_enter Try.func27, Try.ntmps27
    go_upto_block 0 with (first | ((with_reducible refine gate_builtin (b := .append) (xs := #[.tmp 17, .tmp 19]) rfl ?_); at_builtin; refine Kd.R_append (Kd.int .i64) (w0 := w) w.heap.size rfl (.tmp 17) (.tmp 19) 79 3 (.int .i64 0) 8 rfl Try.underlying79 info3 rfl (by decide) (by omega) (.slice none 0 0) ([] : List Int) a2 [.int .i64 a2] (fun _ => True) (fun _ => False) rfl rfl ?aP (fun _ hk => hk.elim) ?aF ?aO ?aB ?aS ?aL ?_; (case aP => exact rfl); (case aB => exact (by repeat (first | (with_reducible first | exact HB.out | apply below_alloc | apply pw_below_drewN | apply below_drew1) | exact HB.out))); (case aF => exact (fun _ _ => trivial)); (case aO => exact ((Kd.R_nil _ _ _ _ (fun _ => True)))); (case aS => exact (below_size (by repeat (first | (with_reducible first | exact HB.out | apply below_alloc | apply pw_below_drewN | apply below_drew1) | exact HB.out)))); (case aL => have := LMc4.out; omega); intro v133 w6 ho hb hg hat; rw [← Ny132.out] at ho; have n0_ := Aside0.mk (hb); have n1_ := Aside0.mk (ho); clear HB; have HB := n0_; have HO134 := n1_; clear n0_ n1_; clear ho hb hg hat))
    (try simp only [Act.put, List.setIfInBounds_toArray, List.set_cons_zero, List.set_cons_succ])
    go_cut [7] (fun v7 wc => ∃ (kq : Nat) (x7_4 : List Int), Aside0 (weftlaw1_agree.j1 kq l0 l1 x7_4 = some r) ∧ Aside0 (kq ≤ k) ∧ Aside0 (Kd.R (Kd.int .i64) 3 wc w.heap.size (fun _ => True) v7 x7_4) ∧ Aside0 (Below w.heap.size w wc))
    case first =>
      have H := HC5.out
      clear HC5
      have H' := Aside0.mk H
      clear H
      go_wp2
      go_loopg [7, 8] k (fun kq v7 v8 w' => ∃ (x7_1 : List Int) (x8_1 : Int), v8 = .int .i64 x8_1 ∧ Aside0 (weftlaw1_agree.l0 kq l0 l1 x7_1 x8_1 = some r) ∧ Aside0 (kq ≤ k) ∧ Aside0 (Kd.R (Kd.int .i64) 3 w' w.heap.size (fun _ => True) v7 x7_1) ∧ Aside0 (Below w.heap.size w w'))
      case atStart => exact ⟨(y132), (0), (by first | rfl | (simp; done) | (simp [*]; done)), H', ⟨Nat.le_refl _⟩, ⟨by (with_reducible repeat (first | apply Kd.R_alloc | apply Kd.R_drewN | apply Kd.R_drew)); exact HO134.out⟩, ⟨by repeat (first | (with_reducible first | exact HB.out | apply below_alloc | apply pw_below_drewN | apply below_drew1) | exact HB.out)⟩⟩
      case round =>
        clear H'
        try clear c1
        try clear c2
        try clear p2
        try clear c4
        obtain ⟨x7_1, x8_1, rfl, HA, HK1, HO_7, HB⟩ := hrel
        cases gk with
        | zero => exact absurd HA.out (by simp [weftlaw1_agree.l0])
        | succ k1 =>
          have H := HA.out
          clear HA
          simp only [weftlaw1_agree.l0] at H
          by_cases c7 : x8_1 < (l0.length : Int)
          · rw [if_pos c7] at H
            have c7b0 : decide (x8_1 < (l0.length : Int)) = true := decide_eq_true c7
            clear c7
            (first | rw [c7b0] | (simp only [i64_w, i32_w]; rw [c7b0]) | skip)
            by_cases c8 : x8_1 < 40
            · rw [if_pos c8] at H
              have c8b0 : decide (x8_1 < 40) = true := decide_eq_true c8
              clear c8
              by_cases c9 : 0 ≤ x8_1
              · rw [if_pos c9] at H
                have c9b0 : decide (0 ≤ x8_1) = true := decide_eq_true c9
                clear c9
                replace H := Option.bind_eq_some_iff.mp H
                obtain ⟨⟨t136, t137⟩, A100, H⟩ := H
                replace H : ((some (([t136, t137, wrap64 (t136 - 1), wrap64 (t137 + 1)] : List Int) : List Int)).bind fun y138 => (if x7_1.length + y138.length < 17592186044416 then (weftlaw1_agree.l0 k1 l0 l1 (x7_1 ++ y138) (wrap64 (x8_1 + 1))) else (none))) = some r := H
                have A10 := Aside0.mk A100
                clear A100
                obtain ⟨y138, hy138⟩ : ∃ y_ : List Int, y_ = (([t136, t137, wrap64 (t136 - 1), wrap64 (t137 + 1)] : List Int)) := ⟨_, rfl⟩
                replace H : (if x7_1.length + y138.length < 17592186044416 then (weftlaw1_agree.l0 k1 l0 l1 (x7_1 ++ y138) (wrap64 (x8_1 + 1))) else (none)) = some r := by first | (rw [hy138]; with_reducible exact H) | (have H2_ := (Option.bind_some _ _).symm.trans H; rw [hy138]; with_reducible exact H2_) | (have H2_ := (Option.bind_some _ _).symm.trans H; with_reducible exact H2_) | with_reducible exact H | (rw [hy138]; exact H) | exact H
                have Ny138 := Aside0.mk hy138
                clear hy138
                by_cases c11 : x7_1.length + y138.length < 17592186044416
                · rw [if_pos c11] at H
                  have LMc11 := Aside0.mk c11
                  clear c11
                  obtain ⟨y141, hy141⟩ : ∃ y_ : List Int, y_ = (x7_1 ++ y138) := ⟨_, rfl⟩
                  replace H : (weftlaw1_agree.l0 k1 l0 l1 y141 (wrap64 (x8_1 + 1))) = some r := by first | (rw [hy141]; with_reducible exact H) | (have H2_ := (Option.bind_some _ _).symm.trans H; rw [hy141]; with_reducible exact H2_) | (have H2_ := (Option.bind_some _ _).symm.trans H; with_reducible exact H2_) | with_reducible exact H | (rw [hy141]; exact H) | exact H
                  have Ny141 := Aside0.mk hy141
                  clear hy141
                  have H' := Aside0.mk H
                  clear H
                  have p135 : 0 ≤ (x8_1 : Int) := of_decide_eq_true (by first | (with_reducible assumption) | assumption)
                  have q135 : x8_1 < (l0.length : Int) := of_decide_eq_true (by first | (with_reducible assumption) | assumption)
                  obtain ⟨ad135, e135, hx135_0, hx135_1⟩ := at_T32 HR0.out x8_1 p135 q135
                  cases e135
                  replace hx135_0 := (HB.out.cell (World.block_lt_of_cell? w _ hx135_0)).trans hx135_0
                  replace hx135_1 := (HB.out.cell (World.block_lt_of_cell? w _ hx135_1)).trans hx135_1
                  replace p135 := eq_true p135
                  replace q135 := eq_true q135
                  go_wp2_with (first | ((with_reducible refine gate_callee (f := 13) rfl ?_); refine goesL_ (some 36) rfl rfl Try.func13 (by kernel_rfl) rfl #[.agg #[.int .u32 ((rd_T32 l0 x8_1).f0), .int .i64 ((rd_T32 l0 x8_1).f1)]] rfl (by (try simp only [List.map_toArray, List.map_cons, List.map_nil]); first | done | rfl | (simp only [List.length_drop, List.length_take]; rfl)) ?_; (with_reducible refine (weftlaw1_block.calls k1 ((rd_T32 l0 x8_1).f0) ((rd_T32 l0 x8_1).f1) t136 t137 _ A10.out).mono ?_); rintro e w12 ⟨rfl, hb⟩; refine ⟨_, rfl, ?_⟩; have n0_ := Aside0.mk (Kd.R_below (by (with_reducible repeat (first | apply Kd.R_alloc | apply Kd.R_drewN | apply Kd.R_drew)); exact HO_7.out) hb); have n1_ := Aside0.mk (below_step (by repeat (first | (with_reducible first | exact HB.out | apply below_alloc | apply pw_below_drewN | apply below_drew1) | exact HB.out)) hb); clear HO_7; clear HB; have HO_7 := n0_; have HB := n1_; clear n0_ n1_; (try clear hb); (try clear hb2); (try clear hk); (try clear hi)) | ((with_reducible refine gate_dst (N := 46) rfl ?_); refine Kd.R_lit (Kd.int .i64) _ 3 ?hg (N := 46) ?hd (xs := ([t136, t137, wrap64 (t136 - 1), wrap64 (t137 + 1)] : List Int)) (inner := [.int .i64 t136, .int .i64 t137, .int .i64 (wrap64 (t136 - 1)), .int .i64 (wrap64 (t137 + 1))]) (ok := fun _ => True) (okp := fun _ => True) ?hr ?hp (fun _ hk => hk) trivial (Below.refl _ _) (Nat.le_refl _) (by simp) ?_; (case hd => rfl); (case hg => rfl); (case hr => first | (go_simp; done) | (go_simp; rfl)); (case hp => exact (Reps.one (show Kd.M (Kd.int .i64) _ _ _ t136 [.int .i64 t136] from rfl) (Reps.one (show Kd.M (Kd.int .i64) _ _ _ t137 [.int .i64 t137] from rfl) (Reps.one (show Kd.M (Kd.int .i64) _ _ _ (wrap64 (t136 - 1)) [.int .i64 (wrap64 (t136 - 1))] from rfl) (Reps.one (show Kd.M (Kd.int .i64) _ _ _ (wrap64 (t137 + 1)) [.int .i64 (wrap64 (t137 + 1))] from rfl) (Reps.none _ _)))))); intro v139 w13 ho14 hb hg_ hnew_; clear hg_ hnew_; (first | rw [← Ny138.out] at ho14 | (simp only [Int.reduceToNat] at ho14; rw [← Ny138.out] at ho14)); have n0_ := Aside0.mk (Kd.R_elder' (by (with_reducible repeat (first | apply Kd.R_alloc | apply Kd.R_drewN | apply Kd.R_drew)); exact HO_7.out) (Kd.R_base ho14) hb); have n1_ := Aside0.mk (Kd.R_lower (Kd.R_new' ho14 (Kd.R_lt (by (with_reducible repeat (first | apply Kd.R_alloc | apply Kd.R_drewN | apply Kd.R_drew)); exact HO_7.out))) (below_size (by repeat (first | (with_reducible first | exact HB.out | apply below_alloc | apply pw_below_drewN | apply below_drew1) | exact HB.out)))); have n2_ := Aside0.mk (below_step (by repeat (first | (with_reducible first | exact HB.out | apply below_alloc | apply pw_below_drewN | apply below_drew1) | exact HB.out)) hb); clear HO_7; clear HB; have HO_7 := n0_; have HO140 := n1_; have HB := n2_; clear n0_ n1_ n2_; clear hb ho14; obtain ⟨Ao16, co16, eo16⟩ := Kd.R_slice HO140.out; subst eo16) | ((with_reducible refine gate_builtin (b := .append) (xs := #[.tmp 39, .tmp 46]) rfl ?_); at_builtin; refine Kd.R_append_rows (Kd.int .i64) (w0 := w) w.heap.size rfl (.tmp 39) (.tmp 46) 79 3 (.int .i64 0) 8 rfl Try.underlying79 info3 rfl (by decide) (by omega) u7 x7_1 y138 _ _ _ (fun k_ => some k_ ≠ (.slice Ao16 y138.length co16 : Value).ownBlock) (fun _ => False) rfl rfl ?aO ?aR (fun _ _ h => h) (fun _ h => h.elim) ?aF ?aB ?aS ?aL ?_; (case aR => repeat (first | exact (Kd.R_reads' HO140.out).2.2 | (with_reducible refine Kd.C_alloc ?_ _) | (with_reducible refine Kd.C_drewN ?_ _) | (with_reducible refine Kd.C_drew ?_))); (case aB => exact (by repeat (first | (with_reducible first | exact HB.out | apply below_alloc | apply pw_below_drewN | apply below_drew1) | exact HB.out))); (case aF => exact (fun k_ hk => Kd.fresh' (Kd.R_lt (by (with_reducible repeat (first | apply Kd.R_alloc | apply Kd.R_drewN | apply Kd.R_drew)); exact HO140.out)) k_ hk)); (case aO => exact (by (with_reducible repeat (first | apply Kd.R_alloc | apply Kd.R_drewN | apply Kd.R_drew)); exact Kd.R_mono HO_7.out (fun _ hk => hk.2))); (case aS => exact (below_size (by repeat (first | (with_reducible first | exact HB.out | apply below_alloc | apply pw_below_drewN | apply below_drew1) | exact HB.out)))); (case aL => have := LMc11.out; omega); intro v142 w15 ho hb hg hat; rw [← Ny141.out] at ho; have n0_ := Aside0.mk (Kd.R_after (ok := (fun _ => True)) (by (with_reducible repeat (first | apply Kd.R_alloc | apply Kd.R_drewN | apply Kd.R_drew)); exact HO140.out) hg hat); have n1_ := Aside0.mk (hb); have n2_ := Aside0.mk (ho); clear HO140; clear HB; clear HO_7; have HO140 := n0_; have HB := n1_; have HO143 := n2_; clear n0_ n1_ n2_; clear ho hb hg hat))
                  go_roundg k1
                  case measure => have := HK1.out; omega
                  case rel => exact ⟨(y141), (wrap64 (x8_1 + 1)), (by first | rfl | (simp; done) | (simp [*]; done)), H', ⟨by have := HK1.out; omega⟩, ⟨by (with_reducible repeat (first | apply Kd.R_alloc | apply Kd.R_drewN | apply Kd.R_drew)); exact Kd.R_mono HO143.out (fun _ hk => trivial)⟩, ⟨by repeat (first | (with_reducible first | exact HB.out | apply below_alloc | apply pw_below_drewN | apply below_drew1) | exact HB.out)⟩⟩
                · rw [if_neg c11] at H
                  exact absurd H (by simp)
              · rw [if_neg c9] at H
                exact absurd H (by simp)
            · rw [if_neg c8] at H
              have c8b0 : decide (x8_1 < 40) = false := decide_eq_false c8
              clear c8
              have H' := Aside0.mk H
              clear H
              go_wp2
              go_meet
              case rel => exact ⟨_, (x7_1), H', ⟨by have := HK1.out; first | omega | exact Nat.le_refl _⟩, ⟨by (with_reducible repeat (first | apply Kd.R_alloc | apply Kd.R_drewN | apply Kd.R_drew)); exact HO_7.out⟩, ⟨by repeat (first | (with_reducible first | exact HB.out | apply below_alloc | apply pw_below_drewN | apply below_drew1) | exact HB.out)⟩⟩
          · rw [if_neg c7] at H
            have c7b0 : decide (x8_1 < (l0.length : Int)) = false := decide_eq_false c7
            clear c7
            (first | rw [c7b0] | (simp only [i64_w, i32_w]; rw [c7b0]) | skip)
            have H' := Aside0.mk H
            clear H
            go_wp2
            go_meet
            case rel => exact ⟨_, (x7_1), H', ⟨by have := HK1.out; first | omega | exact Nat.le_refl _⟩, ⟨by (with_reducible repeat (first | apply Kd.R_alloc | apply Kd.R_drewN | apply Kd.R_drew)); exact HO_7.out⟩, ⟨by repeat (first | (with_reducible first | exact HB.out | apply below_alloc | apply pw_below_drewN | apply below_drew1) | exact HB.out)⟩⟩
    case rest =>
      clear HC5
      try clear c1
      try clear p1
      try clear q1
      try clear hx1
      try clear c2
      try clear p2
      try clear c4
      try clear p6
      try clear c7
      try clear c7b0
      try clear c8
      try clear c8b0
      try clear c9
      try clear c9b0
      try clear c11
      try clear c13
      try clear p13
      try clear q13
      try clear hx13
      try clear hx135_0
      try clear hx135_1
      try clear p135
      try clear p2
      try clear q135
      obtain ⟨kq, x7_4, HA, HJ4, HO_7, HB⟩ := hcut
      cases kq with
      | zero => exact absurd HA.out (by simp [weftlaw1_agree.j1])
      | succ kj4 =>
        have H := HA.out
        clear HA
        simp only [weftlaw1_agree.j1] at H
        have HC17 := Aside0.mk H
        clear H
        go_upto_block 2 with (fail)
        go_cut [7] (fun v7 wc => ∃ (kq : Nat) (x7_16 : List Int), Aside0 (weftlaw1_agree.j3 kq l0 l1 x7_16 = some r) ∧ Aside0 (kq ≤ kj4) ∧ Aside0 (Kd.R (Kd.int .i64) 3 wc w.heap.size (fun _ => True) v7 x7_16) ∧ Aside0 (Below w.heap.size w wc))
        case first =>
          have H := HC17.out
          clear HC17
          have H' := Aside0.mk H
          clear H
          go_wp2
          go_loopg [7, 11] kj4 (fun kq v7 v11 w' => ∃ (x7_2 : List Int) (x11_2 : Int), v11 = .int .i64 x11_2 ∧ Aside0 (weftlaw1_agree.l1 kq l0 l1 x7_2 x11_2 = some r) ∧ Aside0 (kq ≤ kj4) ∧ Aside0 (Kd.R (Kd.int .i64) 3 w' w.heap.size (fun _ => True) v7 x7_2) ∧ Aside0 (Below w.heap.size w w'))
          case atStart => exact ⟨(x7_4), (0), (by first | rfl | (simp; done) | (simp [*]; done)), H', ⟨Nat.le_refl _⟩, ⟨by (with_reducible repeat (first | apply Kd.R_alloc | apply Kd.R_drewN | apply Kd.R_drew)); exact HO_7.out⟩, ⟨by repeat (first | (with_reducible first | exact HB.out | apply below_alloc | apply pw_below_drewN | apply below_drew1) | exact HB.out)⟩⟩
          case round =>
            clear H'
            try clear c1
            try clear p1
            try clear q1
            try clear hx1
            try clear c2
            try clear p2
            try clear c4
            try clear p6
            try clear c7
            try clear c7b0
            try clear c8
            try clear c8b0
            try clear c9
            try clear c9b0
            try clear c11
            try clear c13
            try clear p13
            try clear q13
            try clear hx13
            try clear hx135_0
            try clear hx135_1
            try clear p1
            try clear p13
            try clear p135
            try clear p2
            try clear p6
            try clear q1
            try clear q13
            try clear q135
            obtain ⟨x7_2, x11_2, rfl, HA, HK2, HO_7, HB⟩ := hrel
            cases gk with
            | zero => exact absurd HA.out (by simp [weftlaw1_agree.l1])
            | succ k2 =>
              have H := HA.out
              clear HA
              simp only [weftlaw1_agree.l1] at H
              by_cases c18 : x11_2 < (l1.length : Int)
              · rw [if_pos c18] at H
                have c18b0 : decide (x11_2 < (l1.length : Int)) = true := decide_eq_true c18
                clear c18
                (first | rw [c18b0] | (simp only [i64_w, i32_w]; rw [c18b0]) | skip)
                by_cases c19 : x11_2 < 40
                · rw [if_pos c19] at H
                  have c19b0 : decide (x11_2 < 40) = true := decide_eq_true c19
                  clear c19
                  by_cases c20 : 0 ≤ x11_2
                  · rw [if_pos c20] at H
                    have c20b0 : decide (0 ≤ x11_2) = true := decide_eq_true c20
                    clear c20
                    replace H := Option.bind_eq_some_iff.mp H
                    obtain ⟨⟨t145, t146⟩, A210, H⟩ := H
                    replace H : ((some (([t145, t146, wrap64 (t145 - 1), wrap64 (t146 + 1)] : List Int) : List Int)).bind fun y147 => (if x7_2.length + y147.length < 17592186044416 then (weftlaw1_agree.l1 k2 l0 l1 (x7_2 ++ y147) (wrap64 (x11_2 + 1))) else (none))) = some r := H
                    have A21 := Aside0.mk A210
                    clear A210
                    obtain ⟨y147, hy147⟩ : ∃ y_ : List Int, y_ = (([t145, t146, wrap64 (t145 - 1), wrap64 (t146 + 1)] : List Int)) := ⟨_, rfl⟩
                    replace H : (if x7_2.length + y147.length < 17592186044416 then (weftlaw1_agree.l1 k2 l0 l1 (x7_2 ++ y147) (wrap64 (x11_2 + 1))) else (none)) = some r := by first | (rw [hy147]; with_reducible exact H) | (have H2_ := (Option.bind_some _ _).symm.trans H; rw [hy147]; with_reducible exact H2_) | (have H2_ := (Option.bind_some _ _).symm.trans H; with_reducible exact H2_) | with_reducible exact H | (rw [hy147]; exact H) | exact H
                    have Ny147 := Aside0.mk hy147
                    clear hy147
                    by_cases c22 : x7_2.length + y147.length < 17592186044416
                    · rw [if_pos c22] at H
                      have LMc22 := Aside0.mk c22
                      clear c22
                      obtain ⟨y150, hy150⟩ : ∃ y_ : List Int, y_ = (x7_2 ++ y147) := ⟨_, rfl⟩
                      replace H : (weftlaw1_agree.l1 k2 l0 l1 y150 (wrap64 (x11_2 + 1))) = some r := by first | (rw [hy150]; with_reducible exact H) | (have H2_ := (Option.bind_some _ _).symm.trans H; rw [hy150]; with_reducible exact H2_) | (have H2_ := (Option.bind_some _ _).symm.trans H; with_reducible exact H2_) | with_reducible exact H | (rw [hy150]; exact H) | exact H
                      have Ny150 := Aside0.mk hy150
                      clear hy150
                      have H' := Aside0.mk H
                      clear H
                      have p144 : 0 ≤ (x11_2 : Int) := of_decide_eq_true (by first | (with_reducible assumption) | assumption)
                      have q144 : x11_2 < (l1.length : Int) := of_decide_eq_true (by first | (with_reducible assumption) | assumption)
                      obtain ⟨ad144, e144, hx144_0, hx144_1⟩ := at_T32 HR1.out x11_2 p144 q144
                      cases e144
                      replace hx144_0 := (HB.out.cell (World.block_lt_of_cell? w _ hx144_0)).trans hx144_0
                      replace hx144_1 := (HB.out.cell (World.block_lt_of_cell? w _ hx144_1)).trans hx144_1
                      replace p144 := eq_true p144
                      replace q144 := eq_true q144
                      go_wp2_with (first | ((with_reducible refine gate_callee (f := 13) rfl ?_); refine goesL_ (some 63) rfl rfl Try.func13 (by kernel_rfl) rfl #[.agg #[.int .u32 ((rd_T32 l1 x11_2).f0), .int .i64 ((rd_T32 l1 x11_2).f1)]] rfl (by (try simp only [List.map_toArray, List.map_cons, List.map_nil]); first | done | rfl | (simp only [List.length_drop, List.length_take]; rfl)) ?_; (with_reducible refine (weftlaw1_block.calls k2 ((rd_T32 l1 x11_2).f0) ((rd_T32 l1 x11_2).f1) t145 t146 _ A21.out).mono ?_); rintro e w23 ⟨rfl, hb⟩; refine ⟨_, rfl, ?_⟩; have n0_ := Aside0.mk (Kd.R_below (by (with_reducible repeat (first | apply Kd.R_alloc | apply Kd.R_drewN | apply Kd.R_drew)); exact HO_7.out) hb); have n1_ := Aside0.mk (below_step (by repeat (first | (with_reducible first | exact HB.out | apply below_alloc | apply pw_below_drewN | apply below_drew1) | exact HB.out)) hb); clear HO_7; clear HB; have HO_7 := n0_; have HB := n1_; clear n0_ n1_; (try clear hb); (try clear hb2); (try clear hk); (try clear hi)) | ((with_reducible refine gate_dst (N := 73) rfl ?_); refine Kd.R_lit (Kd.int .i64) _ 3 ?hg (N := 73) ?hd (xs := ([t145, t146, wrap64 (t145 - 1), wrap64 (t146 + 1)] : List Int)) (inner := [.int .i64 t145, .int .i64 t146, .int .i64 (wrap64 (t145 - 1)), .int .i64 (wrap64 (t146 + 1))]) (ok := fun _ => True) (okp := fun _ => True) ?hr ?hp (fun _ hk => hk) trivial (Below.refl _ _) (Nat.le_refl _) (by simp) ?_; (case hd => rfl); (case hg => rfl); (case hr => first | (go_simp; done) | (go_simp; rfl)); (case hp => exact (Reps.one (show Kd.M (Kd.int .i64) _ _ _ t145 [.int .i64 t145] from rfl) (Reps.one (show Kd.M (Kd.int .i64) _ _ _ t146 [.int .i64 t146] from rfl) (Reps.one (show Kd.M (Kd.int .i64) _ _ _ (wrap64 (t145 - 1)) [.int .i64 (wrap64 (t145 - 1))] from rfl) (Reps.one (show Kd.M (Kd.int .i64) _ _ _ (wrap64 (t146 + 1)) [.int .i64 (wrap64 (t146 + 1))] from rfl) (Reps.none _ _)))))); intro v148 w24 ho25 hb hg_ hnew_; clear hg_ hnew_; (first | rw [← Ny147.out] at ho25 | (simp only [Int.reduceToNat] at ho25; rw [← Ny147.out] at ho25)); have n0_ := Aside0.mk (Kd.R_elder' (by (with_reducible repeat (first | apply Kd.R_alloc | apply Kd.R_drewN | apply Kd.R_drew)); exact HO_7.out) (Kd.R_base ho25) hb); have n1_ := Aside0.mk (Kd.R_lower (Kd.R_new' ho25 (Kd.R_lt (by (with_reducible repeat (first | apply Kd.R_alloc | apply Kd.R_drewN | apply Kd.R_drew)); exact HO_7.out))) (below_size (by repeat (first | (with_reducible first | exact HB.out | apply below_alloc | apply pw_below_drewN | apply below_drew1) | exact HB.out)))); have n2_ := Aside0.mk (below_step (by repeat (first | (with_reducible first | exact HB.out | apply below_alloc | apply pw_below_drewN | apply below_drew1) | exact HB.out)) hb); clear HO_7; clear HB; have HO_7 := n0_; have HO149 := n1_; have HB := n2_; clear n0_ n1_ n2_; clear hb ho25; obtain ⟨Ao27, co27, eo27⟩ := Kd.R_slice HO149.out; subst eo27) | ((with_reducible refine gate_builtin (b := .append) (xs := #[.tmp 66, .tmp 73]) rfl ?_); at_builtin; refine Kd.R_append_rows (Kd.int .i64) (w0 := w) w.heap.size rfl (.tmp 66) (.tmp 73) 79 3 (.int .i64 0) 8 rfl Try.underlying79 info3 rfl (by decide) (by omega) u7 x7_2 y147 _ _ _ (fun k_ => some k_ ≠ (.slice Ao27 y147.length co27 : Value).ownBlock) (fun _ => False) rfl rfl ?aO ?aR (fun _ _ h => h) (fun _ h => h.elim) ?aF ?aB ?aS ?aL ?_; (case aR => repeat (first | exact (Kd.R_reads' HO149.out).2.2 | (with_reducible refine Kd.C_alloc ?_ _) | (with_reducible refine Kd.C_drewN ?_ _) | (with_reducible refine Kd.C_drew ?_))); (case aB => exact (by repeat (first | (with_reducible first | exact HB.out | apply below_alloc | apply pw_below_drewN | apply below_drew1) | exact HB.out))); (case aF => exact (fun k_ hk => Kd.fresh' (Kd.R_lt (by (with_reducible repeat (first | apply Kd.R_alloc | apply Kd.R_drewN | apply Kd.R_drew)); exact HO149.out)) k_ hk)); (case aO => exact (by (with_reducible repeat (first | apply Kd.R_alloc | apply Kd.R_drewN | apply Kd.R_drew)); exact Kd.R_mono HO_7.out (fun _ hk => hk.2))); (case aS => exact (below_size (by repeat (first | (with_reducible first | exact HB.out | apply below_alloc | apply pw_below_drewN | apply below_drew1) | exact HB.out)))); (case aL => have := LMc22.out; omega); intro v151 w26 ho hb hg hat; rw [← Ny150.out] at ho; have n0_ := Aside0.mk (Kd.R_after (ok := (fun _ => True)) (by (with_reducible repeat (first | apply Kd.R_alloc | apply Kd.R_drewN | apply Kd.R_drew)); exact HO149.out) hg hat); have n1_ := Aside0.mk (hb); have n2_ := Aside0.mk (ho); clear HO149; clear HB; clear HO_7; have HO149 := n0_; have HB := n1_; have HO152 := n2_; clear n0_ n1_ n2_; clear ho hb hg hat))
                      go_roundg k2
                      case measure => have := HJ4.out; have := HK2.out; omega
                      case rel => exact ⟨(y150), (wrap64 (x11_2 + 1)), (by first | rfl | (simp; done) | (simp [*]; done)), H', ⟨by have := HJ4.out; have := HK2.out; omega⟩, ⟨by (with_reducible repeat (first | apply Kd.R_alloc | apply Kd.R_drewN | apply Kd.R_drew)); exact Kd.R_mono HO152.out (fun _ hk => trivial)⟩, ⟨by repeat (first | (with_reducible first | exact HB.out | apply below_alloc | apply pw_below_drewN | apply below_drew1) | exact HB.out)⟩⟩
                    · rw [if_neg c22] at H
                      exact absurd H (by simp)
                  · rw [if_neg c20] at H
                    exact absurd H (by simp)
                · rw [if_neg c19] at H
                  have c19b0 : decide (x11_2 < 40) = false := decide_eq_false c19
                  clear c19
                  have H' := Aside0.mk H
                  clear H
                  go_wp2
                  go_meet
                  case rel => exact ⟨_, (x7_2), H', ⟨by have := HJ4.out; have := HK2.out; first | omega | exact Nat.le_refl _⟩, ⟨by (with_reducible repeat (first | apply Kd.R_alloc | apply Kd.R_drewN | apply Kd.R_drew)); exact HO_7.out⟩, ⟨by repeat (first | (with_reducible first | exact HB.out | apply below_alloc | apply pw_below_drewN | apply below_drew1) | exact HB.out)⟩⟩
              · rw [if_neg c18] at H
                have c18b0 : decide (x11_2 < (l1.length : Int)) = false := decide_eq_false c18
                clear c18
                (first | rw [c18b0] | (simp only [i64_w, i32_w]; rw [c18b0]) | skip)
                have H' := Aside0.mk H
                clear H
                go_wp2
                go_meet
                case rel => exact ⟨_, (x7_2), H', ⟨by have := HJ4.out; have := HK2.out; first | omega | exact Nat.le_refl _⟩, ⟨by (with_reducible repeat (first | apply Kd.R_alloc | apply Kd.R_drewN | apply Kd.R_drew)); exact HO_7.out⟩, ⟨by repeat (first | (with_reducible first | exact HB.out | apply below_alloc | apply pw_below_drewN | apply below_drew1) | exact HB.out)⟩⟩
        case rest =>
          clear HC17
          try clear c1
          try clear p1
          try clear q1
          try clear hx1
          try clear c2
          try clear p2
          try clear c4
          try clear p6
          try clear c7
          try clear c7b0
          try clear c8
          try clear c8b0
          try clear c9
          try clear c9b0
          try clear c11
          try clear c13
          try clear p13
          try clear q13
          try clear hx13
          try clear p14
          try clear q14
          try clear hx14
          try clear c18
          try clear c18b0
          try clear c19
          try clear c19b0
          try clear c20
          try clear c20b0
          try clear c22
          try clear c27
          try clear hx135_0
          try clear hx135_1
          try clear hx144_0
          try clear hx144_1
          try clear p1
          try clear p13
          try clear p135
          try clear p144
          try clear p2
          try clear p6
          try clear q1
          try clear q13
          try clear q135
          try clear q144
          obtain ⟨kq, x7_16, HA, HJ16, HO_7, HB⟩ := hcut
          cases kq with
          | zero => exact absurd HA.out (by simp [weftlaw1_agree.j3])
          | succ kj16 =>
            have H := HA.out
            clear HA
            simp only [weftlaw1_agree.j3] at H
            have H' := Aside0.mk H
            clear H
            go_wp2
            go_loopg [14] kj16 (fun kq v14 w' => ∃ (x14_3 : Int), v14 = .int .i64 x14_3 ∧ Aside0 (weftlaw1_agree.l2 kq l0 l1 x7_16 x14_3 = some r) ∧ Aside0 (kq ≤ kj16) ∧ Aside0 (Kd.R (Kd.int .i64) 3 w' w.heap.size (fun _ => True) u7 x7_16) ∧ Aside0 (Below w.heap.size w w'))
            case atStart => exact ⟨(0), (by first | rfl | (simp; done) | (simp [*]; done)), H', ⟨Nat.le_refl _⟩, ⟨by (with_reducible repeat (first | apply Kd.R_alloc | apply Kd.R_drewN | apply Kd.R_drew)); exact HO_7.out⟩, ⟨by repeat (first | (with_reducible first | exact HB.out | apply below_alloc | apply pw_below_drewN | apply below_drew1) | exact HB.out)⟩⟩
            case round =>
              clear H'
              try clear c1
              try clear p1
              try clear q1
              try clear hx1
              try clear c2
              try clear p2
              try clear c4
              try clear p6
              try clear c7
              try clear c7b0
              try clear c8
              try clear c8b0
              try clear c9
              try clear c9b0
              try clear c11
              try clear c13
              try clear p13
              try clear q13
              try clear hx13
              try clear p14
              try clear q14
              try clear hx14
              try clear c18
              try clear c18b0
              try clear c19
              try clear c19b0
              try clear c20
              try clear c20b0
              try clear c22
              try clear c27
              try clear hx135_0
              try clear hx135_1
              try clear hx144_0
              try clear hx144_1
              try clear p1
              try clear p13
              try clear p135
              try clear p14
              try clear p144
              try clear p2
              try clear p6
              try clear q1
              try clear q13
              try clear q135
              try clear q14
              try clear q144
              obtain ⟨x14_3, rfl, HA, HK3, HO_7, HB⟩ := hrel
              cases gk with
              | zero => exact absurd HA.out (by simp [weftlaw1_agree.l2])
              | succ k3 =>
                have H := HA.out
                clear HA
                simp only [weftlaw1_agree.l2] at H
                by_cases c28 : x14_3 < (x7_16.length : Int)
                · rw [if_pos c28] at H
                  have c28b0 : decide (x14_3 < (x7_16.length : Int)) = true := decide_eq_true c28
                  clear c28
                  by_cases c29 : 0 ≤ x14_3
                  · rw [if_pos c29] at H
                    have c29b0 : decide (0 ≤ x14_3) = true := decide_eq_true c29
                    clear c29
                    replace H := Option.bind_eq_some_iff.mp H
                    obtain ⟨t154, A300, H⟩ := H
                    replace H : ((weftlaw1_had.f k3 l1 (rd x7_16 x14_3)).bind fun t156 => (if (t154 != t156) = true then (some false) else (weftlaw1_agree.l2 k3 l0 l1 x7_16 (wrap64 (x14_3 + 1))))) = some r := H
                    have A30 := Aside0.mk A300
                    clear A300
                    replace H := Option.bind_eq_some_iff.mp H
                    obtain ⟨t156, A310, H⟩ := H
                    replace H : (if (t154 != t156) = true then (some false) else (weftlaw1_agree.l2 k3 l0 l1 x7_16 (wrap64 (x14_3 + 1)))) = some r := H
                    have A31 := Aside0.mk A310
                    clear A310
                    by_cases c32 : (t154 != t156) = true
                    · rw [if_pos c32] at H
                      have c32b0 : (t154 != t156) = true := c32
                      (try (have c32b1 : decide (t154 = t156) = false := by simpa using c32))
                      (try (have c32b2 : (t154 == t156) = false := by simpa using c32))
                      (try (have c32b3 : ¬ (t154 = t156) := by simpa using c32))
                      clear c32
                      obtain rfl := Option.some.inj H
                      obtain ⟨Ao33, co33, eo33⟩ := Kd.R_slice HO_7.out
                      subst eo33
                      have p153 : 0 ≤ (x14_3 : Int) := of_decide_eq_true (by first | (with_reducible assumption) | assumption)
                      have q153 : x14_3 < (x7_16.length : Int) := of_decide_eq_true (by first | (with_reducible assumption) | assumption)
                      obtain ⟨ad153, e153, hx153_0⟩ := Kd.at_int (Kd.R_reads' HO_7.out).2.2 x14_3 p153 q153
                      cases e153
                      replace p153 := eq_true p153
                      replace q153 := eq_true q153
                      go_wp2_with (first | ((with_reducible refine gate_callee (f := 41) rfl ?_); refine goesL_ (some 86) rfl rfl Try.func41 (by kernel_rfl) rfl #[.slice A0 l0.length c0, .int .i64 (rd x7_16 x14_3)] rfl (by (try simp only [List.map_toArray, List.map_cons, List.map_nil]); first | done | rfl | (simp only [List.length_drop, List.length_take]; rfl)) ?_; (with_reducible refine (weftlaw1_had.calls k3 _ _ l0 (rd x7_16 x14_3) t154 _ ?side1 ?side2 A30.out).mono ?_); (case side1 => repeat (first | exact (Kd.C_below HR0.out HB.out) | (with_reducible refine Kd.C_alloc ?_ _) | (with_reducible refine Kd.C_drewN ?_ _) | (with_reducible refine Kd.C_drew ?_))); (case side2 => exact HC0.out); rintro e w34 ⟨rfl, hb⟩; refine ⟨_, rfl, ?_⟩; have n0_ := Aside0.mk (Kd.R_below (by (with_reducible repeat (first | apply Kd.R_alloc | apply Kd.R_drewN | apply Kd.R_drew)); exact HO_7.out) hb); have n1_ := Aside0.mk (below_step (by repeat (first | (with_reducible first | exact HB.out | apply below_alloc | apply pw_below_drewN | apply below_drew1) | exact HB.out)) hb); clear HO_7; clear HB; have HO_7 := n0_; have HB := n1_; clear n0_ n1_; (try clear hb); (try clear hb2); (try clear hk); (try clear hi); have p155 : 0 ≤ (x14_3 : Int) := of_decide_eq_true (by first | (with_reducible assumption) | assumption); have q155 : x14_3 < (x7_16.length : Int) := of_decide_eq_true (by first | (with_reducible assumption) | assumption); obtain ⟨ad155, e155, hx155_0⟩ := Kd.at_int (Kd.R_reads' HO_7.out).2.2 x14_3 p155 q155; obtain rfl : ad153 = ad155 := (by injection e155); replace p155 := eq_true p155; replace q155 := eq_true q155) | ((with_reducible refine gate_callee (f := 41) rfl ?_); refine goesL_ (some 92) rfl rfl Try.func41 (by kernel_rfl) rfl #[.slice A1 l1.length c1, .int .i64 (rd x7_16 x14_3)] rfl (by (try simp only [List.map_toArray, List.map_cons, List.map_nil]); first | done | rfl | (simp only [List.length_drop, List.length_take]; rfl)) ?_; (with_reducible refine (weftlaw1_had.calls k3 _ _ l1 (rd x7_16 x14_3) t156 _ ?side1 ?side2 A31.out).mono ?_); (case side1 => repeat (first | exact (Kd.C_below HR1.out HB.out) | (with_reducible refine Kd.C_alloc ?_ _) | (with_reducible refine Kd.C_drewN ?_ _) | (with_reducible refine Kd.C_drew ?_))); (case side2 => exact HC1.out); rintro e w35 ⟨rfl, hb⟩; refine ⟨_, rfl, ?_⟩; have n0_ := Aside0.mk (Kd.R_below (by (with_reducible repeat (first | apply Kd.R_alloc | apply Kd.R_drewN | apply Kd.R_drew)); exact HO_7.out) hb); have n1_ := Aside0.mk (below_step (by repeat (first | (with_reducible first | exact HB.out | apply below_alloc | apply pw_below_drewN | apply below_drew1) | exact HB.out)) hb); clear HO_7; clear HB; have HO_7 := n0_; have HB := n1_; clear n0_ n1_; (try clear hb); (try clear hb2); (try clear hk); (try clear hi)))
                      go_ret
                      exact ⟨by first | rfl | (simp [errW_none, errW_some] <;> rfl) | (simp [*, errW_none, errW_some] <;> rfl), by repeat (first | (with_reducible first | exact HB.out | apply below_alloc | apply pw_below_drewN | apply below_drew1) | exact HB.out)⟩
                    · rw [if_neg c32] at H
                      have c32b0 : (t154 != t156) = false := by simpa using c32
                      (try (have c32b1 : decide (t154 = t156) = true := by simpa using c32))
                      (try (have c32b2 : (t154 == t156) = true := by simpa using c32))
                      clear c32
                      have H' := Aside0.mk H
                      clear H
                      obtain ⟨Ao36, co36, eo36⟩ := Kd.R_slice HO_7.out
                      subst eo36
                      have p153 : 0 ≤ (x14_3 : Int) := of_decide_eq_true (by first | (with_reducible assumption) | assumption)
                      have q153 : x14_3 < (x7_16.length : Int) := of_decide_eq_true (by first | (with_reducible assumption) | assumption)
                      obtain ⟨ad153, e153, hx153_0⟩ := Kd.at_int (Kd.R_reads' HO_7.out).2.2 x14_3 p153 q153
                      cases e153
                      replace p153 := eq_true p153
                      replace q153 := eq_true q153
                      go_wp2_with (first | ((with_reducible refine gate_callee (f := 41) rfl ?_); refine goesL_ (some 86) rfl rfl Try.func41 (by kernel_rfl) rfl #[.slice A0 l0.length c0, .int .i64 (rd x7_16 x14_3)] rfl (by (try simp only [List.map_toArray, List.map_cons, List.map_nil]); first | done | rfl | (simp only [List.length_drop, List.length_take]; rfl)) ?_; (with_reducible refine (weftlaw1_had.calls k3 _ _ l0 (rd x7_16 x14_3) t154 _ ?side1 ?side2 A30.out).mono ?_); (case side1 => repeat (first | exact (Kd.C_below HR0.out HB.out) | (with_reducible refine Kd.C_alloc ?_ _) | (with_reducible refine Kd.C_drewN ?_ _) | (with_reducible refine Kd.C_drew ?_))); (case side2 => exact HC0.out); rintro e w37 ⟨rfl, hb⟩; refine ⟨_, rfl, ?_⟩; have n0_ := Aside0.mk (Kd.R_below (by (with_reducible repeat (first | apply Kd.R_alloc | apply Kd.R_drewN | apply Kd.R_drew)); exact HO_7.out) hb); have n1_ := Aside0.mk (below_step (by repeat (first | (with_reducible first | exact HB.out | apply below_alloc | apply pw_below_drewN | apply below_drew1) | exact HB.out)) hb); clear HO_7; clear HB; have HO_7 := n0_; have HB := n1_; clear n0_ n1_; (try clear hb); (try clear hb2); (try clear hk); (try clear hi); have p155 : 0 ≤ (x14_3 : Int) := of_decide_eq_true (by first | (with_reducible assumption) | assumption); have q155 : x14_3 < (x7_16.length : Int) := of_decide_eq_true (by first | (with_reducible assumption) | assumption); obtain ⟨ad155, e155, hx155_0⟩ := Kd.at_int (Kd.R_reads' HO_7.out).2.2 x14_3 p155 q155; obtain rfl : ad153 = ad155 := (by injection e155); replace p155 := eq_true p155; replace q155 := eq_true q155) | ((with_reducible refine gate_callee (f := 41) rfl ?_); refine goesL_ (some 92) rfl rfl Try.func41 (by kernel_rfl) rfl #[.slice A1 l1.length c1, .int .i64 (rd x7_16 x14_3)] rfl (by (try simp only [List.map_toArray, List.map_cons, List.map_nil]); first | done | rfl | (simp only [List.length_drop, List.length_take]; rfl)) ?_; (with_reducible refine (weftlaw1_had.calls k3 _ _ l1 (rd x7_16 x14_3) t156 _ ?side1 ?side2 A31.out).mono ?_); (case side1 => repeat (first | exact (Kd.C_below HR1.out HB.out) | (with_reducible refine Kd.C_alloc ?_ _) | (with_reducible refine Kd.C_drewN ?_ _) | (with_reducible refine Kd.C_drew ?_))); (case side2 => exact HC1.out); rintro e w38 ⟨rfl, hb⟩; refine ⟨_, rfl, ?_⟩; have n0_ := Aside0.mk (Kd.R_below (by (with_reducible repeat (first | apply Kd.R_alloc | apply Kd.R_drewN | apply Kd.R_drew)); exact HO_7.out) hb); have n1_ := Aside0.mk (below_step (by repeat (first | (with_reducible first | exact HB.out | apply below_alloc | apply pw_below_drewN | apply below_drew1) | exact HB.out)) hb); clear HO_7; clear HB; have HO_7 := n0_; have HB := n1_; clear n0_ n1_; (try clear hb); (try clear hb2); (try clear hk); (try clear hi)))
                      go_roundg k3
                      case measure => have := HJ4.out; have := HJ16.out; have := HK3.out; omega
                      case rel => exact ⟨(wrap64 (x14_3 + 1)), (by first | rfl | (simp; done) | (simp [*]; done)), H', ⟨by have := HJ4.out; have := HJ16.out; have := HK3.out; omega⟩, ⟨by (with_reducible repeat (first | apply Kd.R_alloc | apply Kd.R_drewN | apply Kd.R_drew)); exact HO_7.out⟩, ⟨by repeat (first | (with_reducible first | exact HB.out | apply below_alloc | apply pw_below_drewN | apply below_drew1) | exact HB.out)⟩⟩
                  · rw [if_neg c29] at H
                    exact absurd H (by simp)
                · rw [if_neg c28] at H
                  have c28b0 : decide (x14_3 < (x7_16.length : Int)) = false := decide_eq_false c28
                  clear c28
                  obtain rfl := Option.some.inj H
                  obtain ⟨Ao39, co39, eo39⟩ := Kd.R_slice HO_7.out
                  subst eo39
                  go_wp2
                  go_ret
                  exact ⟨by first | rfl | (simp [errW_none, errW_some] <;> rfl) | (simp [*, errW_none, errW_some] <;> rfl), by repeat (first | (with_reducible first | exact HB.out | apply below_alloc | apply pw_below_drewN | apply below_drew1) | exact HB.out)⟩
  · rw [if_neg c4] at H
    exact absurd H (by simp)

end Go.Proofs.Ytncpcjphljfcpaa.PMrg
