-- written by xp.sh, a program of this seat's session
import Derived.Test.YtebnlhjakiipjaaPPlfx0
import Derived.Test.YtebnlhjakiipjaaPPlfx2
namespace Go.Proofs.Ytebnlhjakiipjaa.PPlf
open Go.RowKit Go.Proofs.YtebnlhjakiipjaaW.PrintWords Go.Proofs.YtebnlhjakiipjaaW.PrintLast Go.Proofs.YtebnlhjakiipjaaW.PrintMore
attribute [local go_sem] max2_int min2_int max_two min_two max_three min_three max_four min_four   -- for this text's walks alone
set_option linter.unusedVariables false
set_option linter.unusedSimpArgs false

/-! ### weftlaw10_sound: function 14 -/
mutual
def weftlaw10_sound.j0 : Nat → Bool → Int → Int → Int → Int → Int → List (S27) → Option (Bool)
  | 0, _, _, _, _, _, _, _ => none
  | k + 1, x43, x118000, x118001, x118002, x118003, x118004, x118005 => if x43 = true then (some false) else (if 0 ≤ (wrap64 (32 - x118001)) then (if 0 ≤ (wrap64 (32 - x118002)) then (if (shl .i64 1 (wrap64 (32 - x118001))) = 0 then (none) else (if (Int.tmod (wrap64 (x118000)) (shl .i64 1 (wrap64 (32 - x118001)))) = 0 then (if (shl .i64 1 (wrap64 (32 - x118002))) = 0 then (none) else (if (Int.tmod (wrap64 (x118003)) (shl .i64 1 (wrap64 (32 - x118002)))) = 0 then (if (Int.tmod (wrap64 (x118004)) (shl .i64 1 (wrap64 (32 - x118002)))) = 0 then (if (wrap64 (x118003)) < (wrap64 (x118000)) then (weftlaw10_sound.j1 k (shl .i64 1 (wrap64 (32 - x118001))) (shl .i64 1 (wrap64 (32 - x118002))) (wrap64 (x118000)) true x118000 x118001 x118002 x118003 x118004 x118005) else (weftlaw10_sound.j1 k (shl .i64 1 (wrap64 (32 - x118001))) (shl .i64 1 (wrap64 (32 - x118002))) (wrap64 (x118000)) (decide ((wrap64 (x118004)) ≥ (wrap64 ((wrap64 (x118000)) + (shl .i64 1 (wrap64 (32 - x118001))))))) x118000 x118001 x118002 x118003 x118004 x118005)) else (weftlaw10_sound.j1 k (shl .i64 1 (wrap64 (32 - x118001))) (shl .i64 1 (wrap64 (32 - x118002))) (wrap64 (x118000)) true x118000 x118001 x118002 x118003 x118004 x118005)) else (weftlaw10_sound.j1 k (shl .i64 1 (wrap64 (32 - x118001))) (shl .i64 1 (wrap64 (32 - x118002))) (wrap64 (x118000)) true x118000 x118001 x118002 x118003 x118004 x118005))) else (weftlaw10_sound.j1 k (shl .i64 1 (wrap64 (32 - x118001))) (shl .i64 1 (wrap64 (32 - x118002))) (wrap64 (x118000)) true x118000 x118001 x118002 x118003 x118004 x118005))) else (none)) else (none))
def weftlaw10_sound.j1 : Nat → Int → Int → Int → Bool → Int → Int → Int → Int → Int → List (S27) → Option (Bool)
  | 0, _, _, _, _, _, _, _, _, _, _ => none
  | k + 1, x3, x4, x5, x92, x118000, x118001, x118002, x118003, x118004, x118005 => if x92 = true then (some false) else (weftlaw10_sound.l0 k x3 x4 x5 0 x118000 x118001 x118002 x118003 x118004 x118005)
def weftlaw10_sound.l0 : Nat → Int → Int → Int → Int → Int → Int → Int → Int → Int → List (S27) → Option (Bool)
  | 0, _, _, _, _, _, _, _, _, _, _ => none
  | k + 1, x3, x4, x5, x6, x118000, x118001, x118002, x118003, x118004, x118005 => if x6 < (x118005.length : Int) then (if 0 ≤ x6 then (if ((rd_T27 x118005 x6).f1) = x118002 then (if x4 = 0 then (none) else (if (Int.tmod (wrap64 ((rd_T27 x118005 x6).f0)) x4) = 0 then (if (wrap64 ((rd_T27 x118005 x6).f0)) < x5 then (weftlaw10_sound.j3 k x3 x4 x5 x6 true x118000 x118001 x118002 x118003 x118004 x118005 ((rd_T27 x118005 x6).f0) ((rd_T27 x118005 x6).f1)) else (weftlaw10_sound.j3 k x3 x4 x5 x6 (decide ((wrap64 ((rd_T27 x118005 x6).f0)) ≥ (wrap64 (x5 + x3)))) x118000 x118001 x118002 x118003 x118004 x118005 ((rd_T27 x118005 x6).f0) ((rd_T27 x118005 x6).f1))) else (weftlaw10_sound.j3 k x3 x4 x5 x6 true x118000 x118001 x118002 x118003 x118004 x118005 ((rd_T27 x118005 x6).f0) ((rd_T27 x118005 x6).f1)))) else (weftlaw10_sound.j3 k x3 x4 x5 x6 true x118000 x118001 x118002 x118003 x118004 x118005 ((rd_T27 x118005 x6).f0) ((rd_T27 x118005 x6).f1))) else (none)) else (some true)
def weftlaw10_sound.j3 : Nat → Int → Int → Int → Int → Bool → Int → Int → Int → Int → Int → List (S27) → Int → Int → Option (Bool)
  | 0, _, _, _, _, _, _, _, _, _, _, _, _, _ => none
  | k + 1, x3, x4, x5, x6, x133, x118000, x118001, x118002, x118003, x118004, x118005, x120000, x120001 => if x133 = true then (some false) else (if 0 ≤ x6 then (if x6 ≤ (x118005.length : Int) then ((weftlaw10_has.f k (x118005.take (x6 : Int).toNat) x120000 x120001).bind fun t124 => (if t124 = true then (some false) else (weftlaw10_sound.l0 k x3 x4 x5 (wrap64 (x6 + 1)) x118000 x118001 x118002 x118003 x118004 x118005))) else (none)) else (none))
end
def weftlaw10_sound.f (k : Nat) (a0_0 : Int) (a0_1 : Int) (a0_2 : Int) (a0_3 : Int) (a0_4 : Int) (l0_5 : List (S27)) : Option (Bool) := if a0_1 < 0 then (weftlaw10_sound.j0 k true a0_0 a0_1 a0_2 a0_3 a0_4 l0_5) else (if a0_1 > 32 then (weftlaw10_sound.j0 k true a0_0 a0_1 a0_2 a0_3 a0_4 l0_5) else (if a0_2 < a0_1 then (weftlaw10_sound.j0 k true a0_0 a0_1 a0_2 a0_3 a0_4 l0_5) else (if a0_2 > 32 then (weftlaw10_sound.j0 k true a0_0 a0_1 a0_2 a0_3 a0_4 l0_5) else (if a0_3 > a0_4 then (weftlaw10_sound.j0 k true a0_0 a0_1 a0_2 a0_3 a0_4 l0_5) else (weftlaw10_sound.j0 k (decide ((l0_5.length : Int) > 1024)) a0_0 a0_1 a0_2 a0_3 a0_4 l0_5)))))
theorem weftlaw10_sound.mono_l : ∀ k, (∀ y0 y1 y2 y3 y4 y5 y6, LeO (weftlaw10_sound.j0 k y0 y1 y2 y3 y4 y5 y6) (weftlaw10_sound.j0 (k + 1) y0 y1 y2 y3 y4 y5 y6)) ∧ (∀ y0 y1 y2 y3 y4 y5 y6 y7 y8 y9, LeO (weftlaw10_sound.j1 k y0 y1 y2 y3 y4 y5 y6 y7 y8 y9) (weftlaw10_sound.j1 (k + 1) y0 y1 y2 y3 y4 y5 y6 y7 y8 y9)) ∧ (∀ y0 y1 y2 y3 y4 y5 y6 y7 y8 y9, LeO (weftlaw10_sound.l0 k y0 y1 y2 y3 y4 y5 y6 y7 y8 y9) (weftlaw10_sound.l0 (k + 1) y0 y1 y2 y3 y4 y5 y6 y7 y8 y9)) ∧ (∀ y0 y1 y2 y3 y4 y5 y6 y7 y8 y9 y10 y11 y12, LeO (weftlaw10_sound.j3 k y0 y1 y2 y3 y4 y5 y6 y7 y8 y9 y10 y11 y12) (weftlaw10_sound.j3 (k + 1) y0 y1 y2 y3 y4 y5 y6 y7 y8 y9 y10 y11 y12))
  | 0 => ⟨fun _ _ _ _ _ _ _ r h => by simp [weftlaw10_sound.j0] at h, fun _ _ _ _ _ _ _ _ _ _ r h => by simp [weftlaw10_sound.j1] at h, fun _ _ _ _ _ _ _ _ _ _ r h => by simp [weftlaw10_sound.l0] at h, fun _ _ _ _ _ _ _ _ _ _ _ _ _ r h => by simp [weftlaw10_sound.j3] at h⟩
  | k + 1 => by
    obtain ⟨ih0, ih1, ih2, ih3⟩ := weftlaw10_sound.mono_l k
    refine ⟨?_, ?_, ?_, ?_⟩
    · intro y0 y1 y2 y3 y4 y5 y6
      unfold weftlaw10_sound.j0
      repeat' first
      | (with_reducible exact ih0 _ _ _ _ _ _ _)
      | (with_reducible exact ih1 _ _ _ _ _ _ _ _ _ _)
      | (with_reducible exact ih2 _ _ _ _ _ _ _ _ _ _)
      | (with_reducible exact ih3 _ _ _ _ _ _ _ _ _ _ _ _ _)
      | (with_reducible exact weftlaw10_has.mono _ _ _ _)
      | (with_reducible exact LeO.refl _)
      | (with_reducible exact LeO.none _)
      | (with_reducible refine LeO.ite ?_ ?_)
      | (with_reducible refine LeO.bind ?_ (fun _ => ?_))
      | exact ih0 _ _ _ _ _ _ _
      | exact ih1 _ _ _ _ _ _ _ _ _ _
      | exact ih2 _ _ _ _ _ _ _ _ _ _
      | exact ih3 _ _ _ _ _ _ _ _ _ _ _ _ _
      | exact weftlaw10_has.mono _ _ _ _
      | exact LeO.none _
      | refine LeO.ite ?_ ?_
      | refine LeO.bind ?_ (fun _ => ?_)
    · intro y0 y1 y2 y3 y4 y5 y6 y7 y8 y9
      unfold weftlaw10_sound.j1
      repeat' first
      | (with_reducible exact ih0 _ _ _ _ _ _ _)
      | (with_reducible exact ih1 _ _ _ _ _ _ _ _ _ _)
      | (with_reducible exact ih2 _ _ _ _ _ _ _ _ _ _)
      | (with_reducible exact ih3 _ _ _ _ _ _ _ _ _ _ _ _ _)
      | (with_reducible exact weftlaw10_has.mono _ _ _ _)
      | (with_reducible exact LeO.refl _)
      | (with_reducible exact LeO.none _)
      | (with_reducible refine LeO.ite ?_ ?_)
      | (with_reducible refine LeO.bind ?_ (fun _ => ?_))
      | exact ih0 _ _ _ _ _ _ _
      | exact ih1 _ _ _ _ _ _ _ _ _ _
      | exact ih2 _ _ _ _ _ _ _ _ _ _
      | exact ih3 _ _ _ _ _ _ _ _ _ _ _ _ _
      | exact weftlaw10_has.mono _ _ _ _
      | exact LeO.none _
      | refine LeO.ite ?_ ?_
      | refine LeO.bind ?_ (fun _ => ?_)
    · intro y0 y1 y2 y3 y4 y5 y6 y7 y8 y9
      unfold weftlaw10_sound.l0
      repeat' first
      | (with_reducible exact ih0 _ _ _ _ _ _ _)
      | (with_reducible exact ih1 _ _ _ _ _ _ _ _ _ _)
      | (with_reducible exact ih2 _ _ _ _ _ _ _ _ _ _)
      | (with_reducible exact ih3 _ _ _ _ _ _ _ _ _ _ _ _ _)
      | (with_reducible exact weftlaw10_has.mono _ _ _ _)
      | (with_reducible exact LeO.refl _)
      | (with_reducible exact LeO.none _)
      | (with_reducible refine LeO.ite ?_ ?_)
      | (with_reducible refine LeO.bind ?_ (fun _ => ?_))
      | exact ih0 _ _ _ _ _ _ _
      | exact ih1 _ _ _ _ _ _ _ _ _ _
      | exact ih2 _ _ _ _ _ _ _ _ _ _
      | exact ih3 _ _ _ _ _ _ _ _ _ _ _ _ _
      | exact weftlaw10_has.mono _ _ _ _
      | exact LeO.none _
      | refine LeO.ite ?_ ?_
      | refine LeO.bind ?_ (fun _ => ?_)
    · intro y0 y1 y2 y3 y4 y5 y6 y7 y8 y9 y10 y11 y12
      unfold weftlaw10_sound.j3
      repeat' first
      | (with_reducible exact ih0 _ _ _ _ _ _ _)
      | (with_reducible exact ih1 _ _ _ _ _ _ _ _ _ _)
      | (with_reducible exact ih2 _ _ _ _ _ _ _ _ _ _)
      | (with_reducible exact ih3 _ _ _ _ _ _ _ _ _ _ _ _ _)
      | (with_reducible exact weftlaw10_has.mono _ _ _ _)
      | (with_reducible exact LeO.refl _)
      | (with_reducible exact LeO.none _)
      | (with_reducible refine LeO.ite ?_ ?_)
      | (with_reducible refine LeO.bind ?_ (fun _ => ?_))
      | exact ih0 _ _ _ _ _ _ _
      | exact ih1 _ _ _ _ _ _ _ _ _ _
      | exact ih2 _ _ _ _ _ _ _ _ _ _
      | exact ih3 _ _ _ _ _ _ _ _ _ _ _ _ _
      | exact weftlaw10_has.mono _ _ _ _
      | exact LeO.none _
      | refine LeO.ite ?_ ?_
      | refine LeO.bind ?_ (fun _ => ?_)
theorem weftlaw10_sound.mono : ∀ a0 a1 a2 a3 a4 a5 k, LeO (weftlaw10_sound.f k a0 a1 a2 a3 a4 a5) (weftlaw10_sound.f (k + 1) a0 a1 a2 a3 a4 a5) := by
  intro a0 a1 a2 a3 a4 a5 k
  obtain ⟨ih0, ih1, ih2, ih3⟩ := weftlaw10_sound.mono_l k
  unfold weftlaw10_sound.f
  repeat' first
      | (with_reducible exact ih0 _ _ _ _ _ _ _)
      | (with_reducible exact ih1 _ _ _ _ _ _ _ _ _ _)
      | (with_reducible exact ih2 _ _ _ _ _ _ _ _ _ _)
      | (with_reducible exact ih3 _ _ _ _ _ _ _ _ _ _ _ _ _)
      | (with_reducible exact weftlaw10_has.mono _ _ _ _)
      | (with_reducible exact LeO.refl _)
      | (with_reducible exact LeO.none _)
      | (with_reducible refine LeO.ite ?_ ?_)
      | (with_reducible refine LeO.bind ?_ (fun _ => ?_))
      | exact ih0 _ _ _ _ _ _ _
      | exact ih1 _ _ _ _ _ _ _ _ _ _
      | exact ih2 _ _ _ _ _ _ _ _ _ _
      | exact ih3 _ _ _ _ _ _ _ _ _ _ _ _ _
      | exact weftlaw10_has.mono _ _ _ _
      | exact LeO.none _
      | refine LeO.ite ?_ ?_
      | refine LeO.bind ?_ (fun _ => ?_)
set_option maxHeartbeats 8000000 in
set_option maxRecDepth 100000 in
theorem weftlaw10_sound.calls (k : Nat) (a0_0 : Int) (a0_1 : Int) (a0_2 : Int) (a0_3 : Int) (a0_4 : Int) (A0_5 : Option Addr) (c0_5 : Nat) (l0_5 : List (S27)) (r : Bool) (w : World) (hr0_5 : Kd.C k27 w A0_5 l0_5.length l0_5) (hc0_5 : l0_5.length ≤ c0_5) (h : weftlaw10_sound.f k a0_0 a0_1 a0_2 a0_3 a0_4 l0_5 = some r) :
    Calls Try.prog 14 #[.agg #[.int .u32 a0_0, .int .i64 a0_1, .int .i64 a0_2, .int .u32 a0_3, .int .u32 a0_4, .slice A0_5 l0_5.length c0_5]] w fun e w' => e = .returned (.bool r) ∧ Below w.heap.size w w' := by
  have hu30 := Try.underlying30
  have hu27 := Try.underlying27
  have HR0_5 := Aside0.mk hr0_5
  have HC0_5 := Aside0.mk hc0_5
  clear hr0_5 hc0_5
  have HB := Aside0.mk (Below.refl w.heap.size w)
  have H : (if a0_1 < 0 then (weftlaw10_sound.j0 k true a0_0 a0_1 a0_2 a0_3 a0_4 l0_5) else (if a0_1 > 32 then (weftlaw10_sound.j0 k true a0_0 a0_1 a0_2 a0_3 a0_4 l0_5) else (if a0_2 < a0_1 then (weftlaw10_sound.j0 k true a0_0 a0_1 a0_2 a0_3 a0_4 l0_5) else (if a0_2 > 32 then (weftlaw10_sound.j0 k true a0_0 a0_1 a0_2 a0_3 a0_4 l0_5) else (if a0_3 > a0_4 then (weftlaw10_sound.j0 k true a0_0 a0_1 a0_2 a0_3 a0_4 l0_5) else (weftlaw10_sound.j0 k (decide ((l0_5.length : Int) > 1024)) a0_0 a0_1 a0_2 a0_3 a0_4 l0_5)))))) = some r := h
  clear h
  have HC2 := Aside0.mk H
  clear H
  go_enter Try.func14, Try.ntmps14
  go_upto_region 1 with (first | ((with_reducible refine gate_dst (N := 1) rfl ?_); (try (refine gate_guard (by rfl) ?_; dsimp only)); refine box_event ?hg (N := 1) ?hd (cs := #[.int .u32 a0_0, .int .i64 a0_1, .int .i64 a0_2, .int .u32 a0_3, .int .u32 a0_4, .slice A0_5 l0_5.length c0_5]) (t := 30) ?hr ?_; (case hd => rfl); (case hg => rfl); (case hr => first | (go_simp; done) | (go_simp; rfl)); intro gb117 hg w3 hbox hb; have n0_ := Aside0.mk (below_step (by repeat (first | (with_reducible first | exact HB.out | apply below_alloc | apply pw_below_drewN | apply below_drew1) | exact HB.out)) hb); have n1_ := Aside0.mk (hbox); have n2_ := Aside0.mk ((by rw [hg]; exact (below_size (by repeat (first | (with_reducible first | exact HB.out | apply below_alloc | apply pw_below_drewN | apply below_drew1) | exact HB.out))) : w.heap.size ≤ gb117)); have n3_ := Aside0.mk ((by rw [hg]; exact (below_size (by repeat (first | (with_reducible first | exact HB.out | apply below_alloc | apply pw_below_drewN | apply below_drew1) | exact HB.out))) : w.heap.size ≤ gb117)); clear HB; have HB := n0_; have BK117 := n1_; have GW117 := n2_; have GE117 := n3_; clear n0_ n1_ n2_ n3_; clear hb hbox hg))
  (try simp only [Act.put, List.setIfInBounds_toArray, List.set_cons_zero, List.set_cons_succ])
  go_cut [43] (fun v43 wc => ∃ (kq : Nat) (x43_1 : Bool), v43 = .bool x43_1 ∧ Aside0 (weftlaw10_sound.j0 kq x43_1 a0_0 a0_1 a0_2 a0_3 a0_4 l0_5 = some r) ∧ Aside0 (kq ≤ k) ∧ Aside0 (wc.heap[gb117]? = some (.cells #[.int .u32 a0_0, .int .i64 a0_1, .int .i64 a0_2, .int .u32 a0_3, .int .u32 a0_4, (.slice A0_5 l0_5.length c0_5)] 30 (0, 0))) ∧ Aside0 (Below w.heap.size w wc))
  case first =>
    have H := HC2.out
    clear HC2
    by_cases c4 : a0_1 < 0
    · rw [if_pos c4] at H
      have c4b0 : decide (a0_1 < 0) = true := decide_eq_true c4
      clear c4
      (first | rw [c4b0] | (simp only [i64_w, i32_w]; rw [c4b0]) | skip)
      have H' := Aside0.mk H
      clear H
      have hcz5_0 : w3.cell? ⟨gb117, 0, none⟩ = some (.int .u32 a0_0) := (blk_cell BK117.out 0).trans rfl
      have hcz5_1 : w3.cell? ⟨gb117, 1, none⟩ = some (.int .i64 a0_1) := (blk_cell BK117.out 1).trans rfl
      have hcz5_2 : w3.cell? ⟨gb117, 2, none⟩ = some (.int .i64 a0_2) := (blk_cell BK117.out 2).trans rfl
      have hcz5_3 : w3.cell? ⟨gb117, 3, none⟩ = some (.int .u32 a0_3) := (blk_cell BK117.out 3).trans rfl
      have hcz5_4 : w3.cell? ⟨gb117, 4, none⟩ = some (.int .u32 a0_4) := (blk_cell BK117.out 4).trans rfl
      have hcz5_5 : w3.cell? ⟨gb117, 5, none⟩ = some (.slice A0_5 l0_5.length c0_5) := (blk_cell BK117.out 5).trans rfl
      have hfz5_0 := blk_frozen BK117.out 0
      have hfz5_1 := blk_frozen BK117.out 1
      have hfz5_2 := blk_frozen BK117.out 2
      have hfz5_3 := blk_frozen BK117.out 3
      have hfz5_4 := blk_frozen BK117.out 4
      have hfz5_5 := blk_frozen BK117.out 5
      go_wp2
      go_meet
      case rel => exact ⟨_, (true), (by first | rfl | (simp; done) | (simp [*]; done)), H', ⟨by first | omega | exact Nat.le_refl _⟩, ⟨by (with_reducible repeat (first | refine blk_drewN ?_ _ | refine blk_drew ?_ | refine blk_alloc ?_ _)); exact BK117.out⟩, ⟨by repeat (first | (with_reducible first | exact HB.out | apply below_alloc | apply pw_below_drewN | apply below_drew1 | refine below_set ?_ GE117.out) | exact HB.out)⟩⟩
    · rw [if_neg c4] at H
      have c4b0 : decide (a0_1 < 0) = false := decide_eq_false c4
      clear c4
      (first | rw [c4b0] | (simp only [i64_w, i32_w]; rw [c4b0]) | skip)
      by_cases c6 : a0_1 > 32
      · rw [if_pos c6] at H
        have c6b0 : decide (32 < a0_1) = true := decide_eq_true c6
        clear c6
        have H' := Aside0.mk H
        clear H
        have hcz7_0 : w3.cell? ⟨gb117, 0, none⟩ = some (.int .u32 a0_0) := (blk_cell BK117.out 0).trans rfl
        have hcz7_1 : w3.cell? ⟨gb117, 1, none⟩ = some (.int .i64 a0_1) := (blk_cell BK117.out 1).trans rfl
        have hcz7_2 : w3.cell? ⟨gb117, 2, none⟩ = some (.int .i64 a0_2) := (blk_cell BK117.out 2).trans rfl
        have hcz7_3 : w3.cell? ⟨gb117, 3, none⟩ = some (.int .u32 a0_3) := (blk_cell BK117.out 3).trans rfl
        have hcz7_4 : w3.cell? ⟨gb117, 4, none⟩ = some (.int .u32 a0_4) := (blk_cell BK117.out 4).trans rfl
        have hcz7_5 : w3.cell? ⟨gb117, 5, none⟩ = some (.slice A0_5 l0_5.length c0_5) := (blk_cell BK117.out 5).trans rfl
        have hfz7_0 := blk_frozen BK117.out 0
        have hfz7_1 := blk_frozen BK117.out 1
        have hfz7_2 := blk_frozen BK117.out 2
        have hfz7_3 := blk_frozen BK117.out 3
        have hfz7_4 := blk_frozen BK117.out 4
        have hfz7_5 := blk_frozen BK117.out 5
        go_wp2
        go_meet
        case rel => exact ⟨_, (true), (by first | rfl | (simp; done) | (simp [*]; done)), H', ⟨by first | omega | exact Nat.le_refl _⟩, ⟨by (with_reducible repeat (first | refine blk_drewN ?_ _ | refine blk_drew ?_ | refine blk_alloc ?_ _)); exact BK117.out⟩, ⟨by repeat (first | (with_reducible first | exact HB.out | apply below_alloc | apply pw_below_drewN | apply below_drew1 | refine below_set ?_ GE117.out) | exact HB.out)⟩⟩
      · rw [if_neg c6] at H
        have c6b0 : decide (32 < a0_1) = false := decide_eq_false c6
        clear c6
        by_cases c8 : a0_2 < a0_1
        · rw [if_pos c8] at H
          have c8b0 : decide (a0_2 < a0_1) = true := decide_eq_true c8
          clear c8
          have H' := Aside0.mk H
          clear H
          have hcz9_0 : w3.cell? ⟨gb117, 0, none⟩ = some (.int .u32 a0_0) := (blk_cell BK117.out 0).trans rfl
          have hcz9_1 : w3.cell? ⟨gb117, 1, none⟩ = some (.int .i64 a0_1) := (blk_cell BK117.out 1).trans rfl
          have hcz9_2 : w3.cell? ⟨gb117, 2, none⟩ = some (.int .i64 a0_2) := (blk_cell BK117.out 2).trans rfl
          have hcz9_3 : w3.cell? ⟨gb117, 3, none⟩ = some (.int .u32 a0_3) := (blk_cell BK117.out 3).trans rfl
          have hcz9_4 : w3.cell? ⟨gb117, 4, none⟩ = some (.int .u32 a0_4) := (blk_cell BK117.out 4).trans rfl
          have hcz9_5 : w3.cell? ⟨gb117, 5, none⟩ = some (.slice A0_5 l0_5.length c0_5) := (blk_cell BK117.out 5).trans rfl
          have hfz9_0 := blk_frozen BK117.out 0
          have hfz9_1 := blk_frozen BK117.out 1
          have hfz9_2 := blk_frozen BK117.out 2
          have hfz9_3 := blk_frozen BK117.out 3
          have hfz9_4 := blk_frozen BK117.out 4
          have hfz9_5 := blk_frozen BK117.out 5
          go_wp2
          go_meet
          case rel => exact ⟨_, (true), (by first | rfl | (simp; done) | (simp [*]; done)), H', ⟨by first | omega | exact Nat.le_refl _⟩, ⟨by (with_reducible repeat (first | refine blk_drewN ?_ _ | refine blk_drew ?_ | refine blk_alloc ?_ _)); exact BK117.out⟩, ⟨by repeat (first | (with_reducible first | exact HB.out | apply below_alloc | apply pw_below_drewN | apply below_drew1 | refine below_set ?_ GE117.out) | exact HB.out)⟩⟩
        · rw [if_neg c8] at H
          have c8b0 : decide (a0_2 < a0_1) = false := decide_eq_false c8
          clear c8
          by_cases c10 : a0_2 > 32
          · rw [if_pos c10] at H
            have c10b0 : decide (32 < a0_2) = true := decide_eq_true c10
            clear c10
            have H' := Aside0.mk H
            clear H
            have hcz11_0 : w3.cell? ⟨gb117, 0, none⟩ = some (.int .u32 a0_0) := (blk_cell BK117.out 0).trans rfl
            have hcz11_1 : w3.cell? ⟨gb117, 1, none⟩ = some (.int .i64 a0_1) := (blk_cell BK117.out 1).trans rfl
            have hcz11_2 : w3.cell? ⟨gb117, 2, none⟩ = some (.int .i64 a0_2) := (blk_cell BK117.out 2).trans rfl
            have hcz11_3 : w3.cell? ⟨gb117, 3, none⟩ = some (.int .u32 a0_3) := (blk_cell BK117.out 3).trans rfl
            have hcz11_4 : w3.cell? ⟨gb117, 4, none⟩ = some (.int .u32 a0_4) := (blk_cell BK117.out 4).trans rfl
            have hcz11_5 : w3.cell? ⟨gb117, 5, none⟩ = some (.slice A0_5 l0_5.length c0_5) := (blk_cell BK117.out 5).trans rfl
            have hfz11_0 := blk_frozen BK117.out 0
            have hfz11_1 := blk_frozen BK117.out 1
            have hfz11_2 := blk_frozen BK117.out 2
            have hfz11_3 := blk_frozen BK117.out 3
            have hfz11_4 := blk_frozen BK117.out 4
            have hfz11_5 := blk_frozen BK117.out 5
            go_wp2
            go_meet
            case rel => exact ⟨_, (true), (by first | rfl | (simp; done) | (simp [*]; done)), H', ⟨by first | omega | exact Nat.le_refl _⟩, ⟨by (with_reducible repeat (first | refine blk_drewN ?_ _ | refine blk_drew ?_ | refine blk_alloc ?_ _)); exact BK117.out⟩, ⟨by repeat (first | (with_reducible first | exact HB.out | apply below_alloc | apply pw_below_drewN | apply below_drew1 | refine below_set ?_ GE117.out) | exact HB.out)⟩⟩
          · rw [if_neg c10] at H
            have c10b0 : decide (32 < a0_2) = false := decide_eq_false c10
            clear c10
            by_cases c12 : a0_3 > a0_4
            · rw [if_pos c12] at H
              have c12b0 : decide (a0_4 < a0_3) = true := decide_eq_true c12
              clear c12
              have H' := Aside0.mk H
              clear H
              have hcz13_0 : w3.cell? ⟨gb117, 0, none⟩ = some (.int .u32 a0_0) := (blk_cell BK117.out 0).trans rfl
              have hcz13_1 : w3.cell? ⟨gb117, 1, none⟩ = some (.int .i64 a0_1) := (blk_cell BK117.out 1).trans rfl
              have hcz13_2 : w3.cell? ⟨gb117, 2, none⟩ = some (.int .i64 a0_2) := (blk_cell BK117.out 2).trans rfl
              have hcz13_3 : w3.cell? ⟨gb117, 3, none⟩ = some (.int .u32 a0_3) := (blk_cell BK117.out 3).trans rfl
              have hcz13_4 : w3.cell? ⟨gb117, 4, none⟩ = some (.int .u32 a0_4) := (blk_cell BK117.out 4).trans rfl
              have hcz13_5 : w3.cell? ⟨gb117, 5, none⟩ = some (.slice A0_5 l0_5.length c0_5) := (blk_cell BK117.out 5).trans rfl
              have hfz13_0 := blk_frozen BK117.out 0
              have hfz13_1 := blk_frozen BK117.out 1
              have hfz13_2 := blk_frozen BK117.out 2
              have hfz13_3 := blk_frozen BK117.out 3
              have hfz13_4 := blk_frozen BK117.out 4
              have hfz13_5 := blk_frozen BK117.out 5
              go_wp2
              go_meet
              case rel => exact ⟨_, (true), (by first | rfl | (simp; done) | (simp [*]; done)), H', ⟨by first | omega | exact Nat.le_refl _⟩, ⟨by (with_reducible repeat (first | refine blk_drewN ?_ _ | refine blk_drew ?_ | refine blk_alloc ?_ _)); exact BK117.out⟩, ⟨by repeat (first | (with_reducible first | exact HB.out | apply below_alloc | apply pw_below_drewN | apply below_drew1 | refine below_set ?_ GE117.out) | exact HB.out)⟩⟩
            · rw [if_neg c12] at H
              have c12b0 : decide (a0_4 < a0_3) = false := decide_eq_false c12
              clear c12
              have H' := Aside0.mk H
              clear H
              have hcz14_0 : w3.cell? ⟨gb117, 0, none⟩ = some (.int .u32 a0_0) := (blk_cell BK117.out 0).trans rfl
              have hcz14_1 : w3.cell? ⟨gb117, 1, none⟩ = some (.int .i64 a0_1) := (blk_cell BK117.out 1).trans rfl
              have hcz14_2 : w3.cell? ⟨gb117, 2, none⟩ = some (.int .i64 a0_2) := (blk_cell BK117.out 2).trans rfl
              have hcz14_3 : w3.cell? ⟨gb117, 3, none⟩ = some (.int .u32 a0_3) := (blk_cell BK117.out 3).trans rfl
              have hcz14_4 : w3.cell? ⟨gb117, 4, none⟩ = some (.int .u32 a0_4) := (blk_cell BK117.out 4).trans rfl
              have hcz14_5 : w3.cell? ⟨gb117, 5, none⟩ = some (.slice A0_5 l0_5.length c0_5) := (blk_cell BK117.out 5).trans rfl
              have hfz14_0 := blk_frozen BK117.out 0
              have hfz14_1 := blk_frozen BK117.out 1
              have hfz14_2 := blk_frozen BK117.out 2
              have hfz14_3 := blk_frozen BK117.out 3
              have hfz14_4 := blk_frozen BK117.out 4
              have hfz14_5 := blk_frozen BK117.out 5
              go_wp2
              go_meet
              case rel => exact ⟨_, (decide ((l0_5.length : Int) > 1024)), (by first | rfl | (simp; done) | (simp [*]; done)), H', ⟨by first | omega | exact Nat.le_refl _⟩, ⟨by (with_reducible repeat (first | refine blk_drewN ?_ _ | refine blk_drew ?_ | refine blk_alloc ?_ _)); exact BK117.out⟩, ⟨by repeat (first | (with_reducible first | exact HB.out | apply below_alloc | apply pw_below_drewN | apply below_drew1 | refine below_set ?_ GE117.out) | exact HB.out)⟩⟩
  case rest =>
    clear HC2
    try clear c1
    try clear p2
    try clear c4
    try clear c4b0
    try clear c6
    try clear c6b0
    try clear c8
    try clear c8b0
    try clear c10
    try clear c10b0
    try clear c12
    try clear c12b0
    try clear c14
    try clear hcz11_0
    try clear hcz11_1
    try clear hcz11_2
    try clear hcz11_3
    try clear hcz11_4
    try clear hcz11_5
    try clear hcz13_0
    try clear hcz13_1
    try clear hcz13_2
    try clear hcz13_3
    try clear hcz13_4
    try clear hcz13_5
    try clear hcz14_0
    try clear hcz14_1
    try clear hcz14_2
    try clear hcz14_3
    try clear hcz14_4
    try clear hcz14_5
    try clear hcz5_0
    try clear hcz5_1
    try clear hcz5_2
    try clear hcz5_3
    try clear hcz5_4
    try clear hcz5_5
    try clear hcz7_0
    try clear hcz7_1
    try clear hcz7_2
    try clear hcz7_3
    try clear hcz7_4
    try clear hcz7_5
    try clear hcz9_0
    try clear hcz9_1
    try clear hcz9_2
    try clear hcz9_3
    try clear hcz9_4
    try clear hcz9_5
    try clear hfz11_0
    try clear hfz11_1
    try clear hfz11_2
    try clear hfz11_3
    try clear hfz11_4
    try clear hfz11_5
    try clear hfz13_0
    try clear hfz13_1
    try clear hfz13_2
    try clear hfz13_3
    try clear hfz13_4
    try clear hfz13_5
    try clear hfz14_0
    try clear hfz14_1
    try clear hfz14_2
    try clear hfz14_3
    try clear hfz14_4
    try clear hfz14_5
    try clear hfz5_0
    try clear hfz5_1
    try clear hfz5_2
    try clear hfz5_3
    try clear hfz5_4
    try clear hfz5_5
    try clear hfz7_0
    try clear hfz7_1
    try clear hfz7_2
    try clear hfz7_3
    try clear hfz7_4
    try clear hfz7_5
    try clear hfz9_0
    try clear hfz9_1
    try clear hfz9_2
    try clear hfz9_3
    try clear hfz9_4
    try clear hfz9_5
    obtain ⟨kq, x43_1, rfl, HA, HJ1, BK117, HB⟩ := hcut
    cases kq with
    | zero => exact absurd HA.out (by simp [weftlaw10_sound.j0])
    | succ kj1 =>
      have H := HA.out
      clear HA
      simp only [weftlaw10_sound.j0] at H
      by_cases c15 : x43_1 = true
      · subst c15
        have H1 : (some false) = some r := by rw [if_pos rfl] at H; exact H
        clear H
        have H := H1
        clear H1
        obtain rfl := Option.some.inj H
        go_wp2
        go_ret
        exact ⟨by first | rfl | (simp [errW_none, errW_some] <;> rfl) | (simp [*, errW_none, errW_some] <;> rfl), by repeat (first | (with_reducible first | exact HB.out | apply below_alloc | apply pw_below_drewN | apply below_drew1 | refine below_set ?_ GE117.out) | exact HB.out)⟩
      · replace c15 := Bool.eq_false_iff.mpr c15
        subst c15
        have H1 : (if 0 ≤ (wrap64 (32 - a0_1)) then (if 0 ≤ (wrap64 (32 - a0_2)) then (if (shl .i64 1 (wrap64 (32 - a0_1))) = 0 then (none) else (if (Int.tmod (wrap64 (a0_0)) (shl .i64 1 (wrap64 (32 - a0_1)))) = 0 then (if (shl .i64 1 (wrap64 (32 - a0_2))) = 0 then (none) else (if (Int.tmod (wrap64 (a0_3)) (shl .i64 1 (wrap64 (32 - a0_2)))) = 0 then (if (Int.tmod (wrap64 (a0_4)) (shl .i64 1 (wrap64 (32 - a0_2)))) = 0 then (if (wrap64 (a0_3)) < (wrap64 (a0_0)) then (weftlaw10_sound.j1 kj1 (shl .i64 1 (wrap64 (32 - a0_1))) (shl .i64 1 (wrap64 (32 - a0_2))) (wrap64 (a0_0)) true a0_0 a0_1 a0_2 a0_3 a0_4 l0_5) else (weftlaw10_sound.j1 kj1 (shl .i64 1 (wrap64 (32 - a0_1))) (shl .i64 1 (wrap64 (32 - a0_2))) (wrap64 (a0_0)) (decide ((wrap64 (a0_4)) ≥ (wrap64 ((wrap64 (a0_0)) + (shl .i64 1 (wrap64 (32 - a0_1))))))) a0_0 a0_1 a0_2 a0_3 a0_4 l0_5)) else (weftlaw10_sound.j1 kj1 (shl .i64 1 (wrap64 (32 - a0_1))) (shl .i64 1 (wrap64 (32 - a0_2))) (wrap64 (a0_0)) true a0_0 a0_1 a0_2 a0_3 a0_4 l0_5)) else (weftlaw10_sound.j1 kj1 (shl .i64 1 (wrap64 (32 - a0_1))) (shl .i64 1 (wrap64 (32 - a0_2))) (wrap64 (a0_0)) true a0_0 a0_1 a0_2 a0_3 a0_4 l0_5))) else (weftlaw10_sound.j1 kj1 (shl .i64 1 (wrap64 (32 - a0_1))) (shl .i64 1 (wrap64 (32 - a0_2))) (wrap64 (a0_0)) true a0_0 a0_1 a0_2 a0_3 a0_4 l0_5))) else (none)) else (none)) = some r := by rw [if_neg (show ¬ (false = true) by decide)] at H; exact H
        clear H
        have H := H1
        clear H1
        obtain ⟨ji16, hji16⟩ : ∃ j_ : Int, (wrap64 (32 - a0_1)) = j_ := ⟨_, rfl⟩
        replace H : (if 0 ≤ (ji16) then (if 0 ≤ (wrap64 (32 - a0_2)) then (if (shl .i64 1 (ji16)) = 0 then (none) else (if (Int.tmod (wrap64 (a0_0)) (shl .i64 1 (ji16))) = 0 then (if (shl .i64 1 (wrap64 (32 - a0_2))) = 0 then (none) else (if (Int.tmod (wrap64 (a0_3)) (shl .i64 1 (wrap64 (32 - a0_2)))) = 0 then (if (Int.tmod (wrap64 (a0_4)) (shl .i64 1 (wrap64 (32 - a0_2)))) = 0 then (if (wrap64 (a0_3)) < (wrap64 (a0_0)) then (weftlaw10_sound.j1 kj1 (shl .i64 1 (ji16)) (shl .i64 1 (wrap64 (32 - a0_2))) (wrap64 (a0_0)) true a0_0 a0_1 a0_2 a0_3 a0_4 l0_5) else (weftlaw10_sound.j1 kj1 (shl .i64 1 (ji16)) (shl .i64 1 (wrap64 (32 - a0_2))) (wrap64 (a0_0)) (decide ((wrap64 (a0_4)) ≥ (wrap64 ((wrap64 (a0_0)) + (shl .i64 1 (ji16)))))) a0_0 a0_1 a0_2 a0_3 a0_4 l0_5)) else (weftlaw10_sound.j1 kj1 (shl .i64 1 (ji16)) (shl .i64 1 (wrap64 (32 - a0_2))) (wrap64 (a0_0)) true a0_0 a0_1 a0_2 a0_3 a0_4 l0_5)) else (weftlaw10_sound.j1 kj1 (shl .i64 1 (ji16)) (shl .i64 1 (wrap64 (32 - a0_2))) (wrap64 (a0_0)) true a0_0 a0_1 a0_2 a0_3 a0_4 l0_5))) else (weftlaw10_sound.j1 kj1 (shl .i64 1 (ji16)) (shl .i64 1 (wrap64 (32 - a0_2))) (wrap64 (a0_0)) true a0_0 a0_1 a0_2 a0_3 a0_4 l0_5))) else (none)) else (none)) = some r := by first | (rw [hji16] at H; exact H) | (simp only [hji16] at H ⊢; exact H)
        have hji16w : (IntKind.i64.wrap (32 - a0_1)) = ji16 := (i64_w _).trans hji16
        by_cases c17 : 0 ≤ (ji16)
        · rw [if_pos c17] at H
          have c17b0 := eq_true c17
          have c17b1 : decide (0 ≤ (ji16)) = true := decide_eq_true c17
          clear c17
          obtain ⟨ji18, hji18⟩ : ∃ j_ : Int, (shl .i64 1 (ji16)) = j_ := ⟨_, rfl⟩
          replace H : (if 0 ≤ (wrap64 (32 - a0_2)) then (if (ji18) = 0 then (none) else (if (Int.tmod (wrap64 (a0_0)) (ji18)) = 0 then (if (shl .i64 1 (wrap64 (32 - a0_2))) = 0 then (none) else (if (Int.tmod (wrap64 (a0_3)) (shl .i64 1 (wrap64 (32 - a0_2)))) = 0 then (if (Int.tmod (wrap64 (a0_4)) (shl .i64 1 (wrap64 (32 - a0_2)))) = 0 then (if (wrap64 (a0_3)) < (wrap64 (a0_0)) then (weftlaw10_sound.j1 kj1 ji18 (shl .i64 1 (wrap64 (32 - a0_2))) (wrap64 (a0_0)) true a0_0 a0_1 a0_2 a0_3 a0_4 l0_5) else (weftlaw10_sound.j1 kj1 ji18 (shl .i64 1 (wrap64 (32 - a0_2))) (wrap64 (a0_0)) (decide ((wrap64 (a0_4)) ≥ (wrap64 ((wrap64 (a0_0)) + (ji18))))) a0_0 a0_1 a0_2 a0_3 a0_4 l0_5)) else (weftlaw10_sound.j1 kj1 ji18 (shl .i64 1 (wrap64 (32 - a0_2))) (wrap64 (a0_0)) true a0_0 a0_1 a0_2 a0_3 a0_4 l0_5)) else (weftlaw10_sound.j1 kj1 ji18 (shl .i64 1 (wrap64 (32 - a0_2))) (wrap64 (a0_0)) true a0_0 a0_1 a0_2 a0_3 a0_4 l0_5))) else (weftlaw10_sound.j1 kj1 ji18 (shl .i64 1 (wrap64 (32 - a0_2))) (wrap64 (a0_0)) true a0_0 a0_1 a0_2 a0_3 a0_4 l0_5))) else (none)) = some r := by first | (rw [hji18] at H; exact H) | (simp only [hji18] at H ⊢; exact H)
          have hji18_ : (IntKind.i64.wrap (1 * 2 ^ min (ji16).toNat 64)) = ji18 := hji18
          have hji18z : (ji16) ≤ 64 → (IntKind.i64.wrap (1 * 2 ^ (ji16).toNat)) = ji18 := shl_small hji18
          have hji18u : (IntKind.i64.wrap (2 ^ min (ji16).toNat 64)) = ji18 := by have h_ := hji18_; rw [Int.one_mul] at h_; exact h_
          have hji18v : (ji16) ≤ 64 → (IntKind.i64.wrap (2 ^ (ji16).toNat)) = ji18 := fun hle_ => by have h_ := hji18z hle_; rw [Int.one_mul] at h_; exact h_
          have hji18y : (wrap64 (1 * 2 ^ min (ji16).toNat 64)) = ji18 := (i64_w _).symm.trans hji18_
          have hji18x : (ji16) ≤ 64 → (wrap64 (1 * 2 ^ (ji16).toNat)) = ji18 := fun h_ => (i64_w _).symm.trans (hji18z h_)
          obtain ⟨ji19, hji19⟩ : ∃ j_ : Int, (wrap64 (32 - a0_2)) = j_ := ⟨_, rfl⟩
          replace H : (if 0 ≤ (ji19) then (if (ji18) = 0 then (none) else (if (Int.tmod (wrap64 (a0_0)) (ji18)) = 0 then (if (shl .i64 1 (ji19)) = 0 then (none) else (if (Int.tmod (wrap64 (a0_3)) (shl .i64 1 (ji19))) = 0 then (if (Int.tmod (wrap64 (a0_4)) (shl .i64 1 (ji19))) = 0 then (if (wrap64 (a0_3)) < (wrap64 (a0_0)) then (weftlaw10_sound.j1 kj1 ji18 (shl .i64 1 (ji19)) (wrap64 (a0_0)) true a0_0 a0_1 a0_2 a0_3 a0_4 l0_5) else (weftlaw10_sound.j1 kj1 ji18 (shl .i64 1 (ji19)) (wrap64 (a0_0)) (decide ((wrap64 (a0_4)) ≥ (wrap64 ((wrap64 (a0_0)) + (ji18))))) a0_0 a0_1 a0_2 a0_3 a0_4 l0_5)) else (weftlaw10_sound.j1 kj1 ji18 (shl .i64 1 (ji19)) (wrap64 (a0_0)) true a0_0 a0_1 a0_2 a0_3 a0_4 l0_5)) else (weftlaw10_sound.j1 kj1 ji18 (shl .i64 1 (ji19)) (wrap64 (a0_0)) true a0_0 a0_1 a0_2 a0_3 a0_4 l0_5))) else (weftlaw10_sound.j1 kj1 ji18 (shl .i64 1 (ji19)) (wrap64 (a0_0)) true a0_0 a0_1 a0_2 a0_3 a0_4 l0_5))) else (none)) = some r := by first | (rw [hji19] at H; exact H) | (simp only [hji19] at H ⊢; exact H)
          have hji19w : (IntKind.i64.wrap (32 - a0_2)) = ji19 := (i64_w _).trans hji19
          by_cases c20 : 0 ≤ (ji19)
          · rw [if_pos c20] at H
            have c20b0 := eq_true c20
            have c20b1 : decide (0 ≤ (ji19)) = true := decide_eq_true c20
            clear c20
            obtain ⟨ji21, hji21⟩ : ∃ j_ : Int, (shl .i64 1 (ji19)) = j_ := ⟨_, rfl⟩
            replace H : (if (ji18) = 0 then (none) else (if (Int.tmod (wrap64 (a0_0)) (ji18)) = 0 then (if (ji21) = 0 then (none) else (if (Int.tmod (wrap64 (a0_3)) (ji21)) = 0 then (if (Int.tmod (wrap64 (a0_4)) (ji21)) = 0 then (if (wrap64 (a0_3)) < (wrap64 (a0_0)) then (weftlaw10_sound.j1 kj1 ji18 ji21 (wrap64 (a0_0)) true a0_0 a0_1 a0_2 a0_3 a0_4 l0_5) else (weftlaw10_sound.j1 kj1 ji18 ji21 (wrap64 (a0_0)) (decide ((wrap64 (a0_4)) ≥ (wrap64 ((wrap64 (a0_0)) + (ji18))))) a0_0 a0_1 a0_2 a0_3 a0_4 l0_5)) else (weftlaw10_sound.j1 kj1 ji18 ji21 (wrap64 (a0_0)) true a0_0 a0_1 a0_2 a0_3 a0_4 l0_5)) else (weftlaw10_sound.j1 kj1 ji18 ji21 (wrap64 (a0_0)) true a0_0 a0_1 a0_2 a0_3 a0_4 l0_5))) else (weftlaw10_sound.j1 kj1 ji18 ji21 (wrap64 (a0_0)) true a0_0 a0_1 a0_2 a0_3 a0_4 l0_5))) = some r := by first | (rw [hji21] at H; exact H) | (simp only [hji21] at H ⊢; exact H)
            have hji21_ : (IntKind.i64.wrap (1 * 2 ^ min (ji19).toNat 64)) = ji21 := hji21
            have hji21z : (ji19) ≤ 64 → (IntKind.i64.wrap (1 * 2 ^ (ji19).toNat)) = ji21 := shl_small hji21
            have hji21u : (IntKind.i64.wrap (2 ^ min (ji19).toNat 64)) = ji21 := by have h_ := hji21_; rw [Int.one_mul] at h_; exact h_
            have hji21v : (ji19) ≤ 64 → (IntKind.i64.wrap (2 ^ (ji19).toNat)) = ji21 := fun hle_ => by have h_ := hji21z hle_; rw [Int.one_mul] at h_; exact h_
            have hji21y : (wrap64 (1 * 2 ^ min (ji19).toNat 64)) = ji21 := (i64_w _).symm.trans hji21_
            have hji21x : (ji19) ≤ 64 → (wrap64 (1 * 2 ^ (ji19).toNat)) = ji21 := fun h_ => (i64_w _).symm.trans (hji21z h_)
            have HC22 := Aside0.mk H
            clear H
            have hcz23_0 : wc.cell? ⟨gb117, 0, none⟩ = some (.int .u32 a0_0) := (blk_cell BK117.out 0).trans rfl
            have hcz23_1 : wc.cell? ⟨gb117, 1, none⟩ = some (.int .i64 a0_1) := (blk_cell BK117.out 1).trans rfl
            have hcz23_2 : wc.cell? ⟨gb117, 2, none⟩ = some (.int .i64 a0_2) := (blk_cell BK117.out 2).trans rfl
            have hcz23_3 : wc.cell? ⟨gb117, 3, none⟩ = some (.int .u32 a0_3) := (blk_cell BK117.out 3).trans rfl
            have hcz23_4 : wc.cell? ⟨gb117, 4, none⟩ = some (.int .u32 a0_4) := (blk_cell BK117.out 4).trans rfl
            have hcz23_5 : wc.cell? ⟨gb117, 5, none⟩ = some (.slice A0_5 l0_5.length c0_5) := (blk_cell BK117.out 5).trans rfl
            have hfz23_0 := blk_frozen BK117.out 0
            have hfz23_1 := blk_frozen BK117.out 1
            have hfz23_2 := blk_frozen BK117.out 2
            have hfz23_3 := blk_frozen BK117.out 3
            have hfz23_4 := blk_frozen BK117.out 4
            have hfz23_5 := blk_frozen BK117.out 5
            go_upto_region 6 with (fail)
            go_cut [92] (fun v92 wc => ∃ (kq : Nat) (x92_21 : Bool), v92 = .bool x92_21 ∧ Aside0 (weftlaw10_sound.j1 kq ji18 ji21 (wrap64 (a0_0)) x92_21 a0_0 a0_1 a0_2 a0_3 a0_4 l0_5 = some r) ∧ Aside0 (kq ≤ kj1) ∧ Aside0 (wc.heap[gb117]? = some (.cells #[.int .u32 a0_0, .int .i64 a0_1, .int .i64 a0_2, .int .u32 a0_3, .int .u32 a0_4, (.slice A0_5 l0_5.length c0_5)] 30 (0, 0))) ∧ Aside0 (Below w.heap.size w wc))
            case first =>
              have H := HC22.out
              clear HC22
              by_cases c24 : (ji18) = 0
              · rw [if_pos c24] at H
                exact absurd H (by simp)
              · rw [if_neg c24] at H
                have c24b0 : ((ji18) == 0) = false := beq_eq_false_iff_ne.mpr c24
                have c24b1 : ((ji18) != 0) = true := bne_iff_ne.mpr c24
                (first | rw [c24b0] | (simp only [i64_w, i32_w]; rw [c24b0]) | skip)
                by_cases c25 : (Int.tmod (wrap64 (a0_0)) (ji18)) = 0
                · rw [if_pos c25] at H
                  have c25b0 : ((Int.tmod (wrap64 (a0_0)) (ji18)) == 0) = true := beq_iff_eq.mpr c25
                  have c25b1 : ((Int.tmod (wrap64 (a0_0)) (ji18)) != 0) = false := bne_eq_false_iff_eq.mpr c25
                  clear c25
                  by_cases c26 : (ji21) = 0
                  · rw [if_pos c26] at H
                    exact absurd H (by simp)
                  · rw [if_neg c26] at H
                    have c26b0 : ((ji21) == 0) = false := beq_eq_false_iff_ne.mpr c26
                    have c26b1 : ((ji21) != 0) = true := bne_iff_ne.mpr c26
                    by_cases c27 : (Int.tmod (wrap64 (a0_3)) (ji21)) = 0
                    · rw [if_pos c27] at H
                      have c27b0 : ((Int.tmod (wrap64 (a0_3)) (ji21)) == 0) = true := beq_iff_eq.mpr c27
                      have c27b1 : ((Int.tmod (wrap64 (a0_3)) (ji21)) != 0) = false := bne_eq_false_iff_eq.mpr c27
                      clear c27
                      by_cases c28 : (Int.tmod (wrap64 (a0_4)) (ji21)) = 0
                      · rw [if_pos c28] at H
                        have c28b0 : ((Int.tmod (wrap64 (a0_4)) (ji21)) == 0) = true := beq_iff_eq.mpr c28
                        have c28b1 : ((Int.tmod (wrap64 (a0_4)) (ji21)) != 0) = false := bne_eq_false_iff_eq.mpr c28
                        clear c28
                        by_cases c29 : (wrap64 (a0_3)) < (wrap64 (a0_0))
                        · rw [if_pos c29] at H
                          have c29b0 : decide ((wrap64 (a0_3)) < (wrap64 (a0_0))) = true := decide_eq_true c29
                          clear c29
                          have H' := Aside0.mk H
                          clear H
                          have hcz30_0 : wc.cell? ⟨gb117, 0, none⟩ = some (.int .u32 a0_0) := (blk_cell BK117.out 0).trans rfl
                          have hcz30_1 : wc.cell? ⟨gb117, 1, none⟩ = some (.int .i64 a0_1) := (blk_cell BK117.out 1).trans rfl
                          have hcz30_2 : wc.cell? ⟨gb117, 2, none⟩ = some (.int .i64 a0_2) := (blk_cell BK117.out 2).trans rfl
                          have hcz30_3 : wc.cell? ⟨gb117, 3, none⟩ = some (.int .u32 a0_3) := (blk_cell BK117.out 3).trans rfl
                          have hcz30_4 : wc.cell? ⟨gb117, 4, none⟩ = some (.int .u32 a0_4) := (blk_cell BK117.out 4).trans rfl
                          have hcz30_5 : wc.cell? ⟨gb117, 5, none⟩ = some (.slice A0_5 l0_5.length c0_5) := (blk_cell BK117.out 5).trans rfl
                          have hfz30_0 := blk_frozen BK117.out 0
                          have hfz30_1 := blk_frozen BK117.out 1
                          have hfz30_2 := blk_frozen BK117.out 2
                          have hfz30_3 := blk_frozen BK117.out 3
                          have hfz30_4 := blk_frozen BK117.out 4
                          have hfz30_5 := blk_frozen BK117.out 5
                          go_wp2
                          go_meet
                          case rel => exact ⟨_, (true), (by first | rfl | (simp; done) | (simp [*]; done)), H', ⟨by have := HJ1.out; first | omega | exact Nat.le_refl _⟩, ⟨by (with_reducible repeat (first | refine blk_drewN ?_ _ | refine blk_drew ?_ | refine blk_alloc ?_ _)); exact BK117.out⟩, ⟨by repeat (first | (with_reducible first | exact HB.out | apply below_alloc | apply pw_below_drewN | apply below_drew1 | refine below_set ?_ GE117.out) | exact HB.out)⟩⟩
                        · rw [if_neg c29] at H
                          have c29b0 : decide ((wrap64 (a0_3)) < (wrap64 (a0_0))) = false := decide_eq_false c29
                          clear c29
                          have H' := Aside0.mk H
                          clear H
                          have hcz31_0 : wc.cell? ⟨gb117, 0, none⟩ = some (.int .u32 a0_0) := (blk_cell BK117.out 0).trans rfl
                          have hcz31_1 : wc.cell? ⟨gb117, 1, none⟩ = some (.int .i64 a0_1) := (blk_cell BK117.out 1).trans rfl
                          have hcz31_2 : wc.cell? ⟨gb117, 2, none⟩ = some (.int .i64 a0_2) := (blk_cell BK117.out 2).trans rfl
                          have hcz31_3 : wc.cell? ⟨gb117, 3, none⟩ = some (.int .u32 a0_3) := (blk_cell BK117.out 3).trans rfl
                          have hcz31_4 : wc.cell? ⟨gb117, 4, none⟩ = some (.int .u32 a0_4) := (blk_cell BK117.out 4).trans rfl
                          have hcz31_5 : wc.cell? ⟨gb117, 5, none⟩ = some (.slice A0_5 l0_5.length c0_5) := (blk_cell BK117.out 5).trans rfl
                          have hfz31_0 := blk_frozen BK117.out 0
                          have hfz31_1 := blk_frozen BK117.out 1
                          have hfz31_2 := blk_frozen BK117.out 2
                          have hfz31_3 := blk_frozen BK117.out 3
                          have hfz31_4 := blk_frozen BK117.out 4
                          have hfz31_5 := blk_frozen BK117.out 5
                          go_wp2
                          go_meet
                          case rel => exact ⟨_, (decide ((wrap64 (a0_4)) ≥ (wrap64 ((wrap64 (a0_0)) + (ji18))))), (by first | rfl | (simp; done) | (simp only [← hji18] <;> (first | rfl | simp)) | (simp [*]; done)), H', ⟨by have := HJ1.out; first | omega | exact Nat.le_refl _⟩, ⟨by (with_reducible repeat (first | refine blk_drewN ?_ _ | refine blk_drew ?_ | refine blk_alloc ?_ _)); exact BK117.out⟩, ⟨by repeat (first | (with_reducible first | exact HB.out | apply below_alloc | apply pw_below_drewN | apply below_drew1 | refine below_set ?_ GE117.out) | exact HB.out)⟩⟩
                      · rw [if_neg c28] at H
                        have c28b0 : ((Int.tmod (wrap64 (a0_4)) (ji21)) == 0) = false := beq_eq_false_iff_ne.mpr c28
                        have c28b1 : ((Int.tmod (wrap64 (a0_4)) (ji21)) != 0) = true := bne_iff_ne.mpr c28
                        have H' := Aside0.mk H
                        clear H
                        have hcz32_0 : wc.cell? ⟨gb117, 0, none⟩ = some (.int .u32 a0_0) := (blk_cell BK117.out 0).trans rfl
                        have hcz32_1 : wc.cell? ⟨gb117, 1, none⟩ = some (.int .i64 a0_1) := (blk_cell BK117.out 1).trans rfl
                        have hcz32_2 : wc.cell? ⟨gb117, 2, none⟩ = some (.int .i64 a0_2) := (blk_cell BK117.out 2).trans rfl
                        have hcz32_3 : wc.cell? ⟨gb117, 3, none⟩ = some (.int .u32 a0_3) := (blk_cell BK117.out 3).trans rfl
                        have hcz32_4 : wc.cell? ⟨gb117, 4, none⟩ = some (.int .u32 a0_4) := (blk_cell BK117.out 4).trans rfl
                        have hcz32_5 : wc.cell? ⟨gb117, 5, none⟩ = some (.slice A0_5 l0_5.length c0_5) := (blk_cell BK117.out 5).trans rfl
                        have hfz32_0 := blk_frozen BK117.out 0
                        have hfz32_1 := blk_frozen BK117.out 1
                        have hfz32_2 := blk_frozen BK117.out 2
                        have hfz32_3 := blk_frozen BK117.out 3
                        have hfz32_4 := blk_frozen BK117.out 4
                        have hfz32_5 := blk_frozen BK117.out 5
                        go_wp2
                        go_meet
                        case rel => exact ⟨_, (true), (by first | rfl | (simp; done) | (simp [*]; done)), H', ⟨by have := HJ1.out; first | omega | exact Nat.le_refl _⟩, ⟨by (with_reducible repeat (first | refine blk_drewN ?_ _ | refine blk_drew ?_ | refine blk_alloc ?_ _)); exact BK117.out⟩, ⟨by repeat (first | (with_reducible first | exact HB.out | apply below_alloc | apply pw_below_drewN | apply below_drew1 | refine below_set ?_ GE117.out) | exact HB.out)⟩⟩
                    · rw [if_neg c27] at H
                      have c27b0 : ((Int.tmod (wrap64 (a0_3)) (ji21)) == 0) = false := beq_eq_false_iff_ne.mpr c27
                      have c27b1 : ((Int.tmod (wrap64 (a0_3)) (ji21)) != 0) = true := bne_iff_ne.mpr c27
                      have H' := Aside0.mk H
                      clear H
                      have hcz33_0 : wc.cell? ⟨gb117, 0, none⟩ = some (.int .u32 a0_0) := (blk_cell BK117.out 0).trans rfl
                      have hcz33_1 : wc.cell? ⟨gb117, 1, none⟩ = some (.int .i64 a0_1) := (blk_cell BK117.out 1).trans rfl
                      have hcz33_2 : wc.cell? ⟨gb117, 2, none⟩ = some (.int .i64 a0_2) := (blk_cell BK117.out 2).trans rfl
                      have hcz33_3 : wc.cell? ⟨gb117, 3, none⟩ = some (.int .u32 a0_3) := (blk_cell BK117.out 3).trans rfl
                      have hcz33_4 : wc.cell? ⟨gb117, 4, none⟩ = some (.int .u32 a0_4) := (blk_cell BK117.out 4).trans rfl
                      have hcz33_5 : wc.cell? ⟨gb117, 5, none⟩ = some (.slice A0_5 l0_5.length c0_5) := (blk_cell BK117.out 5).trans rfl
                      have hfz33_0 := blk_frozen BK117.out 0
                      have hfz33_1 := blk_frozen BK117.out 1
                      have hfz33_2 := blk_frozen BK117.out 2
                      have hfz33_3 := blk_frozen BK117.out 3
                      have hfz33_4 := blk_frozen BK117.out 4
                      have hfz33_5 := blk_frozen BK117.out 5
                      go_wp2
                      go_meet
                      case rel => exact ⟨_, (true), (by first | rfl | (simp; done) | (simp [*]; done)), H', ⟨by have := HJ1.out; first | omega | exact Nat.le_refl _⟩, ⟨by (with_reducible repeat (first | refine blk_drewN ?_ _ | refine blk_drew ?_ | refine blk_alloc ?_ _)); exact BK117.out⟩, ⟨by repeat (first | (with_reducible first | exact HB.out | apply below_alloc | apply pw_below_drewN | apply below_drew1 | refine below_set ?_ GE117.out) | exact HB.out)⟩⟩
                · rw [if_neg c25] at H
                  have c25b0 : ((Int.tmod (wrap64 (a0_0)) (ji18)) == 0) = false := beq_eq_false_iff_ne.mpr c25
                  have c25b1 : ((Int.tmod (wrap64 (a0_0)) (ji18)) != 0) = true := bne_iff_ne.mpr c25
                  have H' := Aside0.mk H
                  clear H
                  go_wp2
                  go_meet
                  case rel => exact ⟨_, (true), (by first | rfl | (simp; done) | (simp [*]; done)), H', ⟨by have := HJ1.out; first | omega | exact Nat.le_refl _⟩, ⟨by (with_reducible repeat (first | refine blk_drewN ?_ _ | refine blk_drew ?_ | refine blk_alloc ?_ _)); exact BK117.out⟩, ⟨by repeat (first | (with_reducible first | exact HB.out | apply below_alloc | apply pw_below_drewN | apply below_drew1 | refine below_set ?_ GE117.out) | exact HB.out)⟩⟩
            case rest =>
              clear HC22
              try clear c1
              try clear c2
              try clear p2
              try clear c4
              try clear c4b0
              try clear c6
              try clear c6b0
              try clear p6
              try clear c8
              try clear c8b0
              try clear c10
              try clear c10b0
              try clear c12
              try clear c12b0
              try clear c14
              try clear c15
              try clear c17
              try clear c17b0
              try clear c17b1
              try clear c20
              try clear c20b0
              try clear c20b1
              try clear c24
              try clear c24b0
              try clear c24b1
              try clear c25
              try clear c25b0
              try clear c25b1
              try clear c26
              try clear c26b0
              try clear c26b1
              try clear c27
              try clear c27b0
              try clear c27b1
              try clear c28
              try clear c28b0
              try clear c28b1
              try clear c29
              try clear c29b0
              try clear hcz11_0
              try clear hcz11_1
              try clear hcz11_2
              try clear hcz11_3
              try clear hcz11_4
              try clear hcz11_5
              try clear hcz13_0
              try clear hcz13_1
              try clear hcz13_2
              try clear hcz13_3
              try clear hcz13_4
              try clear hcz13_5
              try clear hcz14_0
              try clear hcz14_1
              try clear hcz14_2
              try clear hcz14_3
              try clear hcz14_4
              try clear hcz14_5
              try clear hcz23_0
              try clear hcz23_1
              try clear hcz23_2
              try clear hcz23_3
              try clear hcz23_4
              try clear hcz23_5
              try clear hcz30_0
              try clear hcz30_1
              try clear hcz30_2
              try clear hcz30_3
              try clear hcz30_4
              try clear hcz30_5
              try clear hcz31_0
              try clear hcz31_1
              try clear hcz31_2
              try clear hcz31_3
              try clear hcz31_4
              try clear hcz31_5
              try clear hcz32_0
              try clear hcz32_1
              try clear hcz32_2
              try clear hcz32_3
              try clear hcz32_4
              try clear hcz32_5
              try clear hcz33_0
              try clear hcz33_1
              try clear hcz33_2
              try clear hcz33_3
              try clear hcz33_4
              try clear hcz33_5
              try clear hcz5_0
              try clear hcz5_1
              try clear hcz5_2
              try clear hcz5_3
              try clear hcz5_4
              try clear hcz5_5
              try clear hcz7_0
              try clear hcz7_1
              try clear hcz7_2
              try clear hcz7_3
              try clear hcz7_4
              try clear hcz7_5
              try clear hcz9_0
              try clear hcz9_1
              try clear hcz9_2
              try clear hcz9_3
              try clear hcz9_4
              try clear hcz9_5
              try clear hfz11_0
              try clear hfz11_1
              try clear hfz11_2
              try clear hfz11_3
              try clear hfz11_4
              try clear hfz11_5
              try clear hfz13_0
              try clear hfz13_1
              try clear hfz13_2
              try clear hfz13_3
              try clear hfz13_4
              try clear hfz13_5
              try clear hfz14_0
              try clear hfz14_1
              try clear hfz14_2
              try clear hfz14_3
              try clear hfz14_4
              try clear hfz14_5
              try clear hfz23_0
              try clear hfz23_1
              try clear hfz23_2
              try clear hfz23_3
              try clear hfz23_4
              try clear hfz23_5
              try clear hfz30_0
              try clear hfz30_1
              try clear hfz30_2
              try clear hfz30_3
              try clear hfz30_4
              try clear hfz30_5
              try clear hfz31_0
              try clear hfz31_1
              try clear hfz31_2
              try clear hfz31_3
              try clear hfz31_4
              try clear hfz31_5
              try clear hfz32_0
              try clear hfz32_1
              try clear hfz32_2
              try clear hfz32_3
              try clear hfz32_4
              try clear hfz32_5
              try clear hfz33_0
              try clear hfz33_1
              try clear hfz33_2
              try clear hfz33_3
              try clear hfz33_4
              try clear hfz33_5
              try clear hfz5_0
              try clear hfz5_1
              try clear hfz5_2
              try clear hfz5_3
              try clear hfz5_4
              try clear hfz5_5
              try clear hfz7_0
              try clear hfz7_1
              try clear hfz7_2
              try clear hfz7_3
              try clear hfz7_4
              try clear hfz7_5
              try clear hfz9_0
              try clear hfz9_1
              try clear hfz9_2
              try clear hfz9_3
              try clear hfz9_4
              try clear hfz9_5
              try clear p2
              obtain ⟨kq, x92_21, rfl, HA, HJ21, BK117, HB⟩ := hcut
              cases kq with
              | zero => exact absurd HA.out (by simp [weftlaw10_sound.j1])
              | succ kj21 =>
                have H := HA.out
                clear HA
                simp only [weftlaw10_sound.j1] at H
                by_cases c34 : x92_21 = true
                · subst c34
                  have H1 : (some false) = some r := by rw [if_pos rfl] at H; exact H
                  clear H
                  have H := H1
                  clear H1
                  obtain rfl := Option.some.inj H
                  go_wp2
                  go_ret
                  exact ⟨by first | rfl | (simp [errW_none, errW_some] <;> rfl) | (simp only [← hji16, ← hji18, ← hji19, ← hji21]; first | rfl | (simp [errW_none, errW_some] <;> rfl)) | (simp [*, errW_none, errW_some] <;> rfl), by repeat (first | (with_reducible first | exact HB.out | apply below_alloc | apply pw_below_drewN | apply below_drew1 | refine below_set ?_ GE117.out) | exact HB.out)⟩
                · replace c34 := Bool.eq_false_iff.mpr c34
                  subst c34
                  have H1 : (weftlaw10_sound.l0 kj21 ji18 ji21 (wrap64 (a0_0)) 0 a0_0 a0_1 a0_2 a0_3 a0_4 l0_5) = some r := by rw [if_neg (show ¬ (false = true) by decide)] at H; exact H
                  clear H
                  have H := H1
                  clear H1
                  have H' := Aside0.mk H
                  clear H
                  go_wp2
                  go_loopg [6] kj21 (fun kq v6 w' => ∃ (x6_3 : Int), v6 = .int .i64 x6_3 ∧ Aside0 (weftlaw10_sound.l0 kq ji18 ji21 (wrap64 (a0_0)) x6_3 a0_0 a0_1 a0_2 a0_3 a0_4 l0_5 = some r) ∧ Aside0 (kq ≤ kj21) ∧ Aside0 (w'.heap[gb117]? = some (.cells #[.int .u32 a0_0, .int .i64 a0_1, .int .i64 a0_2, .int .u32 a0_3, .int .u32 a0_4, (.slice A0_5 l0_5.length c0_5)] 30 (0, 0))) ∧ Aside0 (Below w.heap.size w w'))
                  case atStart => exact ⟨(0), (by first | rfl | (simp; done) | (simp [*]; done)), H', ⟨Nat.le_refl _⟩, ⟨by (with_reducible repeat (first | refine blk_drewN ?_ _ | refine blk_drew ?_ | refine blk_alloc ?_ _)); exact BK117.out⟩, ⟨by repeat (first | (with_reducible first | exact HB.out | apply below_alloc | apply pw_below_drewN | apply below_drew1 | refine below_set ?_ GE117.out) | exact HB.out)⟩⟩
                  case round =>
                    clear H'
                    try clear c1
                    try clear c2
                    try clear p2
                    try clear c3
                    try clear c4
                    try clear c4b0
                    try clear c6
                    try clear c6b0
                    try clear p6
                    try clear c8
                    try clear c8b0
                    try clear c10
                    try clear c10b0
                    try clear c12
                    try clear c12b0
                    try clear c14
                    try clear c15
                    try clear c17
                    try clear c17b0
                    try clear c17b1
                    try clear c20
                    try clear c20b0
                    try clear c20b1
                    try clear c24
                    try clear c24b0
                    try clear c24b1
                    try clear c25
                    try clear c25b0
                    try clear c25b1
                    try clear c26
                    try clear c26b0
                    try clear c26b1
                    try clear c27
                    try clear c27b0
                    try clear c27b1
                    try clear c28
                    try clear c28b0
                    try clear c28b1
                    try clear c29
                    try clear c29b0
                    try clear c34
                    try clear hcz11_0
                    try clear hcz11_1
                    try clear hcz11_2
                    try clear hcz11_3
                    try clear hcz11_4
                    try clear hcz11_5
                    try clear hcz13_0
                    try clear hcz13_1
                    try clear hcz13_2
                    try clear hcz13_3
                    try clear hcz13_4
                    try clear hcz13_5
                    try clear hcz14_0
                    try clear hcz14_1
                    try clear hcz14_2
                    try clear hcz14_3
                    try clear hcz14_4
                    try clear hcz14_5
                    try clear hcz23_0
                    try clear hcz23_1
                    try clear hcz23_2
                    try clear hcz23_3
                    try clear hcz23_4
                    try clear hcz23_5
                    try clear hcz30_0
                    try clear hcz30_1
                    try clear hcz30_2
                    try clear hcz30_3
                    try clear hcz30_4
                    try clear hcz30_5
                    try clear hcz31_0
                    try clear hcz31_1
                    try clear hcz31_2
                    try clear hcz31_3
                    try clear hcz31_4
                    try clear hcz31_5
                    try clear hcz32_0
                    try clear hcz32_1
                    try clear hcz32_2
                    try clear hcz32_3
                    try clear hcz32_4
                    try clear hcz32_5
                    try clear hcz33_0
                    try clear hcz33_1
                    try clear hcz33_2
                    try clear hcz33_3
                    try clear hcz33_4
                    try clear hcz33_5
                    try clear hcz5_0
                    try clear hcz5_1
                    try clear hcz5_2
                    try clear hcz5_3
                    try clear hcz5_4
                    try clear hcz5_5
                    try clear hcz7_0
                    try clear hcz7_1
                    try clear hcz7_2
                    try clear hcz7_3
                    try clear hcz7_4
                    try clear hcz7_5
                    try clear hcz9_0
                    try clear hcz9_1
                    try clear hcz9_2
                    try clear hcz9_3
                    try clear hcz9_4
                    try clear hcz9_5
                    try clear hfz11_0
                    try clear hfz11_1
                    try clear hfz11_2
                    try clear hfz11_3
                    try clear hfz11_4
                    try clear hfz11_5
                    try clear hfz13_0
                    try clear hfz13_1
                    try clear hfz13_2
                    try clear hfz13_3
                    try clear hfz13_4
                    try clear hfz13_5
                    try clear hfz14_0
                    try clear hfz14_1
                    try clear hfz14_2
                    try clear hfz14_3
                    try clear hfz14_4
                    try clear hfz14_5
                    try clear hfz23_0
                    try clear hfz23_1
                    try clear hfz23_2
                    try clear hfz23_3
                    try clear hfz23_4
                    try clear hfz23_5
                    try clear hfz30_0
                    try clear hfz30_1
                    try clear hfz30_2
                    try clear hfz30_3
                    try clear hfz30_4
                    try clear hfz30_5
                    try clear hfz31_0
                    try clear hfz31_1
                    try clear hfz31_2
                    try clear hfz31_3
                    try clear hfz31_4
                    try clear hfz31_5
                    try clear hfz32_0
                    try clear hfz32_1
                    try clear hfz32_2
                    try clear hfz32_3
                    try clear hfz32_4
                    try clear hfz32_5
                    try clear hfz33_0
                    try clear hfz33_1
                    try clear hfz33_2
                    try clear hfz33_3
                    try clear hfz33_4
                    try clear hfz33_5
                    try clear hfz5_0
                    try clear hfz5_1
                    try clear hfz5_2
                    try clear hfz5_3
                    try clear hfz5_4
                    try clear hfz5_5
                    try clear hfz7_0
                    try clear hfz7_1
                    try clear hfz7_2
                    try clear hfz7_3
                    try clear hfz7_4
                    try clear hfz7_5
                    try clear hfz9_0
                    try clear hfz9_1
                    try clear hfz9_2
                    try clear hfz9_3
                    try clear hfz9_4
                    try clear hfz9_5
                    try clear p2
                    try clear p6
                    obtain ⟨x6_3, rfl, HA, HK3, BK117, HB⟩ := hrel
                    cases gk with
                    | zero => exact absurd HA.out (by simp [weftlaw10_sound.l0])
                    | succ k3 =>
                      have H := HA.out
                      clear HA
                      simp only [weftlaw10_sound.l0] at H
                      by_cases c35 : x6_3 < (l0_5.length : Int)
                      · rw [if_pos c35] at H
                        have c35b0 : decide (x6_3 < (l0_5.length : Int)) = true := decide_eq_true c35
                        clear c35
                        by_cases c36 : 0 ≤ x6_3
                        · rw [if_pos c36] at H
                          have c36b0 : decide (0 ≤ x6_3) = true := decide_eq_true c36
                          clear c36
                          have HC37 := Aside0.mk H
                          clear H
                          have hcz38_0 : wr.cell? ⟨gb117, 0, none⟩ = some (.int .u32 a0_0) := (blk_cell BK117.out 0).trans rfl
                          have hcz38_1 : wr.cell? ⟨gb117, 1, none⟩ = some (.int .i64 a0_1) := (blk_cell BK117.out 1).trans rfl
                          have hcz38_2 : wr.cell? ⟨gb117, 2, none⟩ = some (.int .i64 a0_2) := (blk_cell BK117.out 2).trans rfl
                          have hcz38_3 : wr.cell? ⟨gb117, 3, none⟩ = some (.int .u32 a0_3) := (blk_cell BK117.out 3).trans rfl
                          have hcz38_4 : wr.cell? ⟨gb117, 4, none⟩ = some (.int .u32 a0_4) := (blk_cell BK117.out 4).trans rfl
                          have hcz38_5 : wr.cell? ⟨gb117, 5, none⟩ = some (.slice A0_5 l0_5.length c0_5) := (blk_cell BK117.out 5).trans rfl
                          have hfz38_0 := blk_frozen BK117.out 0
                          have hfz38_1 := blk_frozen BK117.out 1
                          have hfz38_2 := blk_frozen BK117.out 2
                          have hfz38_3 := blk_frozen BK117.out 3
                          have hfz38_4 := blk_frozen BK117.out 4
                          have hfz38_5 := blk_frozen BK117.out 5
                          have p118 : 0 ≤ (x6_3 : Int) := of_decide_eq_true (by first | (with_reducible assumption) | assumption)
                          have q118 : x6_3 < (l0_5.length : Int) := of_decide_eq_true (by first | (with_reducible assumption) | assumption)
                          obtain ⟨ad118, e118, hx118_0, hx118_1⟩ := at_T27 HR0_5.out x6_3 p118 q118
                          cases e118
                          replace hx118_0 := (HB.out.cell (World.block_lt_of_cell? w _ hx118_0)).trans hx118_0
                          replace hx118_1 := (HB.out.cell (World.block_lt_of_cell? w _ hx118_1)).trans hx118_1
                          replace p118 := eq_true p118
                          replace q118 := eq_true q118
                          go_upto_region 12 with (first | ((with_reducible refine gate_dst (N := 7) rfl ?_); (try (refine gate_guard (by rfl) ?_; dsimp only)); refine box_event ?hg (N := 7) ?hd (cs := #[.int .u32 0, .int .i64 0]) (t := 27) ?hr ?_; (case hd => rfl); (case hg => rfl); (case hr => first | (go_simp; done) | (go_simp; rfl)); intro gb119 hg w39 hbox hb; have n0_ := Aside0.mk (blk_below (g := gb117) (o := .cells #[.int .u32 a0_0, .int .i64 a0_1, .int .i64 a0_2, .int .u32 a0_3, .int .u32 a0_4, .slice (some ad118) l0_5.length c0_5] 30 (0, 0)) (by (with_reducible repeat (first | refine blk_drewN ?_ _ | refine blk_drew ?_ | refine blk_alloc ?_ _)); exact BK117.out) hb); have n1_ := Aside0.mk (below_step (by repeat (first | (with_reducible first | exact HB.out | apply below_alloc | apply pw_below_drewN | apply below_drew1 | refine below_set ?_ GE117.out) | exact HB.out)) hb); have n2_ := Aside0.mk (hbox); have n3_ := Aside0.mk ((by rw [hg]; exact (below_size (by repeat (first | (with_reducible first | exact HB.out | apply below_alloc | apply pw_below_drewN | apply below_drew1 | refine below_set ?_ GE117.out) | exact HB.out))) : w.heap.size ≤ gb119)); have n4_ := Aside0.mk ((by rw [hg]; exact (below_size (by repeat (first | (with_reducible first | exact HB.out | apply below_alloc | apply pw_below_drewN | apply below_drew1 | refine below_set ?_ GE117.out) | exact HB.out))) : w.heap.size ≤ gb119)); have n5_ := Aside0.mk ((by rw [hg]; exact Nat.ne_of_lt (blk_lt (g := gb117) (o := .cells #[.int .u32 a0_0, .int .i64 a0_1, .int .i64 a0_2, .int .u32 a0_3, .int .u32 a0_4, .slice (some ad118) l0_5.length c0_5] 30 (0, 0)) (by (with_reducible repeat (first | refine blk_drewN ?_ _ | refine blk_drew ?_ | refine blk_alloc ?_ _)); exact BK117.out)) : gb117 ≠ gb119)); have n6_ := Aside0.mk ((by rw [hg]; exact Nat.ne_of_gt (blk_lt (g := gb117) (o := .cells #[.int .u32 a0_0, .int .i64 a0_1, .int .i64 a0_2, .int .u32 a0_3, .int .u32 a0_4, .slice (some ad118) l0_5.length c0_5] 30 (0, 0)) (by (with_reducible repeat (first | refine blk_drewN ?_ _ | refine blk_drew ?_ | refine blk_alloc ?_ _)); exact BK117.out)) : gb119 ≠ gb117)); clear BK117; clear HB; have BK117 := n0_; have HB := n1_; have BK119 := n2_; have GW119 := n3_; have GE119 := n4_; have NB117_119 := n5_; have NB119_117 := n6_; clear n0_ n1_ n2_ n3_ n4_ n5_ n6_; clear hb hbox hg; have hnb40 := NB119_117.out; have hnc40 := NB117_119.out; have hcz41_0 : w39.cell? ⟨gb119, 0, none⟩ = some (.int .u32 0) := (blk_cell BK119.out 0).trans rfl; have hcz41_1 : w39.cell? ⟨gb119, 1, none⟩ = some (.int .i64 0) := (blk_cell BK119.out 1).trans rfl; have hfz41_0 := blk_frozen BK119.out 0; have hfz41_1 := blk_frozen BK119.out 1))
                          (try simp only [Act.put, List.setIfInBounds_toArray, List.set_cons_zero, List.set_cons_succ])
                          go_cut [133] (fun v133 wc => ∃ (kq : Nat) (x133_36 : Bool), v133 = .bool x133_36 ∧ Aside0 (weftlaw10_sound.j3 kq ji18 ji21 (wrap64 (a0_0)) x6_3 x133_36 a0_0 a0_1 a0_2 a0_3 a0_4 l0_5 ((rd_T27 l0_5 x6_3).f0) ((rd_T27 l0_5 x6_3).f1) = some r) ∧ Aside0 (kq ≤ k3) ∧ Aside0 (wc.heap[gb117]? = some (.cells #[.int .u32 a0_0, .int .i64 a0_1, .int .i64 a0_2, .int .u32 a0_3, .int .u32 a0_4, (.slice (some ad118) l0_5.length c0_5)] 30 (0, 0))) ∧ Aside0 (wc.heap[gb119]? = some (.cells #[.int .u32 ((rd_T27 l0_5 x6_3).f0), .int .i64 ((rd_T27 l0_5 x6_3).f1)] 27 (0, 0))) ∧ Aside0 (Below w.heap.size w wc))
                          case first =>
                            have H := HC37.out
                            clear HC37
                            by_cases c42 : ((rd_T27 l0_5 x6_3).f1) = a0_2
                            · rw [if_pos c42] at H
                              have c42b0 : (((rd_T27 l0_5 x6_3).f1) == a0_2) = true := beq_iff_eq.mpr c42
                              have c42b1 : (((rd_T27 l0_5 x6_3).f1) != a0_2) = false := bne_eq_false_iff_eq.mpr c42
                              clear c42
                              (first | rw [c42b0] | (simp only [i64_w, i32_w]; rw [c42b0]) | skip)
                              by_cases c43 : ji21 = 0
                              · rw [if_pos c43] at H
                                exact absurd H (by simp)
                              · rw [if_neg c43] at H
                                have c43b0 : (ji21 == 0) = false := beq_eq_false_iff_ne.mpr c43
                                have c43b1 : (ji21 != 0) = true := bne_iff_ne.mpr c43
                                by_cases c44 : (Int.tmod (wrap64 ((rd_T27 l0_5 x6_3).f0)) ji21) = 0
                                · rw [if_pos c44] at H
                                  have c44b0 : ((Int.tmod (wrap64 ((rd_T27 l0_5 x6_3).f0)) ji21) == 0) = true := beq_iff_eq.mpr c44
                                  have c44b1 : ((Int.tmod (wrap64 ((rd_T27 l0_5 x6_3).f0)) ji21) != 0) = false := bne_eq_false_iff_eq.mpr c44
                                  clear c44
                                  by_cases c45 : (wrap64 ((rd_T27 l0_5 x6_3).f0)) < (wrap64 (a0_0))
                                  · rw [if_pos c45] at H
                                    have c45b0 : decide ((wrap64 ((rd_T27 l0_5 x6_3).f0)) < (wrap64 (a0_0))) = true := decide_eq_true c45
                                    clear c45
                                    have H' := Aside0.mk H
                                    clear H
                                    have hnb46 := NB119_117.out
                                    have hnc46 := NB117_119.out
                                    have hcz47_0 : w39.cell? ⟨gb119, 0, none⟩ = some (.int .u32 0) := (blk_cell BK119.out 0).trans rfl
                                    have hcz47_1 : w39.cell? ⟨gb119, 1, none⟩ = some (.int .i64 0) := (blk_cell BK119.out 1).trans rfl
                                    have hfz47_0 := blk_frozen BK119.out 0
                                    have hfz47_1 := blk_frozen BK119.out 1
                                    have hcz48_0 : w39.cell? ⟨gb117, 0, none⟩ = some (.int .u32 a0_0) := (blk_cell BK117.out 0).trans rfl
                                    have hcz48_1 : w39.cell? ⟨gb117, 1, none⟩ = some (.int .i64 a0_1) := (blk_cell BK117.out 1).trans rfl
                                    have hcz48_2 : w39.cell? ⟨gb117, 2, none⟩ = some (.int .i64 a0_2) := (blk_cell BK117.out 2).trans rfl
                                    have hcz48_3 : w39.cell? ⟨gb117, 3, none⟩ = some (.int .u32 a0_3) := (blk_cell BK117.out 3).trans rfl
                                    have hcz48_4 : w39.cell? ⟨gb117, 4, none⟩ = some (.int .u32 a0_4) := (blk_cell BK117.out 4).trans rfl
                                    have hcz48_5 : w39.cell? ⟨gb117, 5, none⟩ = some (.slice (some ad118) l0_5.length c0_5) := (blk_cell BK117.out 5).trans rfl
                                    have hfz48_0 := blk_frozen BK117.out 0
                                    have hfz48_1 := blk_frozen BK117.out 1
                                    have hfz48_2 := blk_frozen BK117.out 2
                                    have hfz48_3 := blk_frozen BK117.out 3
                                    have hfz48_4 := blk_frozen BK117.out 4
                                    have hfz48_5 := blk_frozen BK117.out 5
                                    go_wp2
                                    go_meet
                                    case rel => exact ⟨_, (true), (by first | rfl | (simp; done) | (simp [*]; done)), H', ⟨by have := HJ1.out; have := HJ21.out; have := HK3.out; first | omega | exact Nat.le_refl _⟩, ⟨by (with_reducible repeat (first | refine blk_drewN ?_ _ | refine blk_drew ?_ | refine blk_alloc ?_ _)); refine blk_far ?_ NB117_119.out _; (with_reducible repeat (first | refine blk_drewN ?_ _ | refine blk_drew ?_ | refine blk_alloc ?_ _)); refine blk_far ?_ NB117_119.out _; (with_reducible repeat (first | refine blk_drewN ?_ _ | refine blk_drew ?_ | refine blk_alloc ?_ _)); exact BK117.out⟩, ⟨by (with_reducible repeat (first | refine blk_drewN ?_ _ | refine blk_drew ?_ | refine blk_alloc ?_ _)); refine blk_put (cs := #[.int .u32 ((rd_T27 l0_5 x6_3).f0), .int .i64 0]) ?_ 1 _ rfl; (with_reducible repeat (first | refine blk_drewN ?_ _ | refine blk_drew ?_ | refine blk_alloc ?_ _)); refine blk_put (cs := #[.int .u32 0, .int .i64 0]) ?_ 0 _ rfl; (with_reducible repeat (first | refine blk_drewN ?_ _ | refine blk_drew ?_ | refine blk_alloc ?_ _)); exact BK119.out⟩, ⟨by repeat (first | (with_reducible first | exact HB.out | apply below_alloc | apply pw_below_drewN | apply below_drew1 | refine below_set ?_ GE117.out | refine below_set ?_ GE119.out) | exact HB.out)⟩⟩
                                  · rw [if_neg c45] at H
                                    have c45b0 : decide ((wrap64 ((rd_T27 l0_5 x6_3).f0)) < (wrap64 (a0_0))) = false := decide_eq_false c45
                                    clear c45
                                    have H' := Aside0.mk H
                                    clear H
                                    have hnb49 := NB119_117.out
                                    have hnc49 := NB117_119.out
                                    have hcz50_0 : w39.cell? ⟨gb119, 0, none⟩ = some (.int .u32 0) := (blk_cell BK119.out 0).trans rfl
                                    have hcz50_1 : w39.cell? ⟨gb119, 1, none⟩ = some (.int .i64 0) := (blk_cell BK119.out 1).trans rfl
                                    have hfz50_0 := blk_frozen BK119.out 0
                                    have hfz50_1 := blk_frozen BK119.out 1
                                    have hcz51_0 : w39.cell? ⟨gb117, 0, none⟩ = some (.int .u32 a0_0) := (blk_cell BK117.out 0).trans rfl
                                    have hcz51_1 : w39.cell? ⟨gb117, 1, none⟩ = some (.int .i64 a0_1) := (blk_cell BK117.out 1).trans rfl
                                    have hcz51_2 : w39.cell? ⟨gb117, 2, none⟩ = some (.int .i64 a0_2) := (blk_cell BK117.out 2).trans rfl
                                    have hcz51_3 : w39.cell? ⟨gb117, 3, none⟩ = some (.int .u32 a0_3) := (blk_cell BK117.out 3).trans rfl
                                    have hcz51_4 : w39.cell? ⟨gb117, 4, none⟩ = some (.int .u32 a0_4) := (blk_cell BK117.out 4).trans rfl
                                    have hcz51_5 : w39.cell? ⟨gb117, 5, none⟩ = some (.slice (some ad118) l0_5.length c0_5) := (blk_cell BK117.out 5).trans rfl
                                    have hfz51_0 := blk_frozen BK117.out 0
                                    have hfz51_1 := blk_frozen BK117.out 1
                                    have hfz51_2 := blk_frozen BK117.out 2
                                    have hfz51_3 := blk_frozen BK117.out 3
                                    have hfz51_4 := blk_frozen BK117.out 4
                                    have hfz51_5 := blk_frozen BK117.out 5
                                    go_wp2
                                    go_meet
                                    case rel => exact ⟨_, (decide ((wrap64 ((rd_T27 l0_5 x6_3).f0)) ≥ (wrap64 ((wrap64 (a0_0)) + ji18)))), (by first | rfl | (simp; done) | (simp only [← hji18] <;> (first | rfl | simp)) | (simp [*]; done)), H', ⟨by have := HJ1.out; have := HJ21.out; have := HK3.out; first | omega | exact Nat.le_refl _⟩, ⟨by (with_reducible repeat (first | refine blk_drewN ?_ _ | refine blk_drew ?_ | refine blk_alloc ?_ _)); refine blk_far ?_ NB117_119.out _; (with_reducible repeat (first | refine blk_drewN ?_ _ | refine blk_drew ?_ | refine blk_alloc ?_ _)); refine blk_far ?_ NB117_119.out _; (with_reducible repeat (first | refine blk_drewN ?_ _ | refine blk_drew ?_ | refine blk_alloc ?_ _)); exact BK117.out⟩, ⟨by (with_reducible repeat (first | refine blk_drewN ?_ _ | refine blk_drew ?_ | refine blk_alloc ?_ _)); refine blk_put (cs := #[.int .u32 ((rd_T27 l0_5 x6_3).f0), .int .i64 0]) ?_ 1 _ rfl; (with_reducible repeat (first | refine blk_drewN ?_ _ | refine blk_drew ?_ | refine blk_alloc ?_ _)); refine blk_put (cs := #[.int .u32 0, .int .i64 0]) ?_ 0 _ rfl; (with_reducible repeat (first | refine blk_drewN ?_ _ | refine blk_drew ?_ | refine blk_alloc ?_ _)); exact BK119.out⟩, ⟨by repeat (first | (with_reducible first | exact HB.out | apply below_alloc | apply pw_below_drewN | apply below_drew1 | refine below_set ?_ GE117.out | refine below_set ?_ GE119.out) | exact HB.out)⟩⟩
                                · rw [if_neg c44] at H
                                  have c44b0 : ((Int.tmod (wrap64 ((rd_T27 l0_5 x6_3).f0)) ji21) == 0) = false := beq_eq_false_iff_ne.mpr c44
                                  have c44b1 : ((Int.tmod (wrap64 ((rd_T27 l0_5 x6_3).f0)) ji21) != 0) = true := bne_iff_ne.mpr c44
                                  have H' := Aside0.mk H
                                  clear H
                                  have hnb52 := NB119_117.out
                                  have hnc52 := NB117_119.out
                                  have hcz53_0 : w39.cell? ⟨gb119, 0, none⟩ = some (.int .u32 0) := (blk_cell BK119.out 0).trans rfl
                                  have hcz53_1 : w39.cell? ⟨gb119, 1, none⟩ = some (.int .i64 0) := (blk_cell BK119.out 1).trans rfl
                                  have hfz53_0 := blk_frozen BK119.out 0
                                  have hfz53_1 := blk_frozen BK119.out 1
                                  have hcz54_0 : w39.cell? ⟨gb117, 0, none⟩ = some (.int .u32 a0_0) := (blk_cell BK117.out 0).trans rfl
                                  have hcz54_1 : w39.cell? ⟨gb117, 1, none⟩ = some (.int .i64 a0_1) := (blk_cell BK117.out 1).trans rfl
                                  have hcz54_2 : w39.cell? ⟨gb117, 2, none⟩ = some (.int .i64 a0_2) := (blk_cell BK117.out 2).trans rfl
                                  have hcz54_3 : w39.cell? ⟨gb117, 3, none⟩ = some (.int .u32 a0_3) := (blk_cell BK117.out 3).trans rfl
                                  have hcz54_4 : w39.cell? ⟨gb117, 4, none⟩ = some (.int .u32 a0_4) := (blk_cell BK117.out 4).trans rfl
                                  have hcz54_5 : w39.cell? ⟨gb117, 5, none⟩ = some (.slice (some ad118) l0_5.length c0_5) := (blk_cell BK117.out 5).trans rfl
                                  have hfz54_0 := blk_frozen BK117.out 0
                                  have hfz54_1 := blk_frozen BK117.out 1
                                  have hfz54_2 := blk_frozen BK117.out 2
                                  have hfz54_3 := blk_frozen BK117.out 3
                                  have hfz54_4 := blk_frozen BK117.out 4
                                  have hfz54_5 := blk_frozen BK117.out 5
                                  go_wp2
                                  go_meet
                                  case rel => exact ⟨_, (true), (by first | rfl | (simp; done) | (simp [*]; done)), H', ⟨by have := HJ1.out; have := HJ21.out; have := HK3.out; first | omega | exact Nat.le_refl _⟩, ⟨by (with_reducible repeat (first | refine blk_drewN ?_ _ | refine blk_drew ?_ | refine blk_alloc ?_ _)); refine blk_far ?_ NB117_119.out _; (with_reducible repeat (first | refine blk_drewN ?_ _ | refine blk_drew ?_ | refine blk_alloc ?_ _)); refine blk_far ?_ NB117_119.out _; (with_reducible repeat (first | refine blk_drewN ?_ _ | refine blk_drew ?_ | refine blk_alloc ?_ _)); exact BK117.out⟩, ⟨by (with_reducible repeat (first | refine blk_drewN ?_ _ | refine blk_drew ?_ | refine blk_alloc ?_ _)); refine blk_put (cs := #[.int .u32 ((rd_T27 l0_5 x6_3).f0), .int .i64 0]) ?_ 1 _ rfl; (with_reducible repeat (first | refine blk_drewN ?_ _ | refine blk_drew ?_ | refine blk_alloc ?_ _)); refine blk_put (cs := #[.int .u32 0, .int .i64 0]) ?_ 0 _ rfl; (with_reducible repeat (first | refine blk_drewN ?_ _ | refine blk_drew ?_ | refine blk_alloc ?_ _)); exact BK119.out⟩, ⟨by repeat (first | (with_reducible first | exact HB.out | apply below_alloc | apply pw_below_drewN | apply below_drew1 | refine below_set ?_ GE117.out | refine below_set ?_ GE119.out) | exact HB.out)⟩⟩
                            · rw [if_neg c42] at H
                              have c42b0 : (((rd_T27 l0_5 x6_3).f1) == a0_2) = false := beq_eq_false_iff_ne.mpr c42
                              have c42b1 : (((rd_T27 l0_5 x6_3).f1) != a0_2) = true := bne_iff_ne.mpr c42
                              (first | rw [c42b0] | (simp only [i64_w, i32_w]; rw [c42b0]) | skip)
                              have H' := Aside0.mk H
                              clear H
                              have hnb55 := NB119_117.out
                              have hnc55 := NB117_119.out
                              have hcz56_0 : w39.cell? ⟨gb119, 0, none⟩ = some (.int .u32 0) := (blk_cell BK119.out 0).trans rfl
                              have hcz56_1 : w39.cell? ⟨gb119, 1, none⟩ = some (.int .i64 0) := (blk_cell BK119.out 1).trans rfl
                              have hfz56_0 := blk_frozen BK119.out 0
                              have hfz56_1 := blk_frozen BK119.out 1
                              have hcz57_0 : w39.cell? ⟨gb117, 0, none⟩ = some (.int .u32 a0_0) := (blk_cell BK117.out 0).trans rfl
                              have hcz57_1 : w39.cell? ⟨gb117, 1, none⟩ = some (.int .i64 a0_1) := (blk_cell BK117.out 1).trans rfl
                              have hcz57_2 : w39.cell? ⟨gb117, 2, none⟩ = some (.int .i64 a0_2) := (blk_cell BK117.out 2).trans rfl
                              have hcz57_3 : w39.cell? ⟨gb117, 3, none⟩ = some (.int .u32 a0_3) := (blk_cell BK117.out 3).trans rfl
                              have hcz57_4 : w39.cell? ⟨gb117, 4, none⟩ = some (.int .u32 a0_4) := (blk_cell BK117.out 4).trans rfl
                              have hcz57_5 : w39.cell? ⟨gb117, 5, none⟩ = some (.slice (some ad118) l0_5.length c0_5) := (blk_cell BK117.out 5).trans rfl
                              have hfz57_0 := blk_frozen BK117.out 0
                              have hfz57_1 := blk_frozen BK117.out 1
                              have hfz57_2 := blk_frozen BK117.out 2
                              have hfz57_3 := blk_frozen BK117.out 3
                              have hfz57_4 := blk_frozen BK117.out 4
                              have hfz57_5 := blk_frozen BK117.out 5
                              go_wp2
                              go_meet
                              case rel => exact ⟨_, (true), (by first | rfl | (simp; done) | (simp [*]; done)), H', ⟨by have := HJ1.out; have := HJ21.out; have := HK3.out; first | omega | exact Nat.le_refl _⟩, ⟨by (with_reducible repeat (first | refine blk_drewN ?_ _ | refine blk_drew ?_ | refine blk_alloc ?_ _)); refine blk_far ?_ NB117_119.out _; (with_reducible repeat (first | refine blk_drewN ?_ _ | refine blk_drew ?_ | refine blk_alloc ?_ _)); refine blk_far ?_ NB117_119.out _; (with_reducible repeat (first | refine blk_drewN ?_ _ | refine blk_drew ?_ | refine blk_alloc ?_ _)); exact BK117.out⟩, ⟨by (with_reducible repeat (first | refine blk_drewN ?_ _ | refine blk_drew ?_ | refine blk_alloc ?_ _)); refine blk_put (cs := #[.int .u32 ((rd_T27 l0_5 x6_3).f0), .int .i64 0]) ?_ 1 _ rfl; (with_reducible repeat (first | refine blk_drewN ?_ _ | refine blk_drew ?_ | refine blk_alloc ?_ _)); refine blk_put (cs := #[.int .u32 0, .int .i64 0]) ?_ 0 _ rfl; (with_reducible repeat (first | refine blk_drewN ?_ _ | refine blk_drew ?_ | refine blk_alloc ?_ _)); exact BK119.out⟩, ⟨by repeat (first | (with_reducible first | exact HB.out | apply below_alloc | apply pw_below_drewN | apply below_drew1 | refine below_set ?_ GE117.out | refine below_set ?_ GE119.out) | exact HB.out)⟩⟩
                          case rest =>
                            clear HC37
                            try clear c1
                            try clear p1
                            try clear q1
                            try clear hx1
                            try clear c2
                            try clear p2
                            try clear c3
                            try clear c4
                            try clear c4b0
                            try clear c5
                            try clear c6
                            try clear c6b0
                            try clear p6
                            try clear c8
                            try clear c8b0
                            try clear c10
                            try clear c10b0
                            try clear p11
                            try clear q11
                            try clear hx11
                            try clear c12
                            try clear c12b0
                            try clear c14
                            try clear c15
                            try clear c17
                            try clear c17b0
                            try clear c17b1
                            try clear c20
                            try clear c20b0
                            try clear c20b1
                            try clear c24
                            try clear c24b0
                            try clear c24b1
                            try clear c25
                            try clear c25b0
                            try clear c25b1
                            try clear c26
                            try clear c26b0
                            try clear c26b1
                            try clear c27
                            try clear c27b0
                            try clear c27b1
                            try clear c28
                            try clear c28b0
                            try clear c28b1
                            try clear c29
                            try clear c29b0
                            try clear c34
                            try clear c35
                            try clear c35b0
                            try clear c36
                            try clear c36b0
                            try clear c40
                            try clear c42
                            try clear c42b0
                            try clear c42b1
                            try clear c43
                            try clear c43b0
                            try clear c43b1
                            try clear c44
                            try clear c44b0
                            try clear c44b1
                            try clear c45
                            try clear c45b0
                            try clear c46
                            try clear c49
                            try clear c52
                            try clear c55
                            try clear hcz11_0
                            try clear hcz11_1
                            try clear hcz11_2
                            try clear hcz11_3
                            try clear hcz11_4
                            try clear hcz11_5
                            try clear hcz13_0
                            try clear hcz13_1
                            try clear hcz13_2
                            try clear hcz13_3
                            try clear hcz13_4
                            try clear hcz13_5
                            try clear hcz14_0
                            try clear hcz14_1
                            try clear hcz14_2
                            try clear hcz14_3
                            try clear hcz14_4
                            try clear hcz14_5
                            try clear hcz23_0
                            try clear hcz23_1
                            try clear hcz23_2
                            try clear hcz23_3
                            try clear hcz23_4
                            try clear hcz23_5
                            try clear hcz30_0
                            try clear hcz30_1
                            try clear hcz30_2
                            try clear hcz30_3
                            try clear hcz30_4
                            try clear hcz30_5
                            try clear hcz31_0
                            try clear hcz31_1
                            try clear hcz31_2
                            try clear hcz31_3
                            try clear hcz31_4
                            try clear hcz31_5
                            try clear hcz32_0
                            try clear hcz32_1
                            try clear hcz32_2
                            try clear hcz32_3
                            try clear hcz32_4
                            try clear hcz32_5
                            try clear hcz33_0
                            try clear hcz33_1
                            try clear hcz33_2
                            try clear hcz33_3
                            try clear hcz33_4
                            try clear hcz33_5
                            try clear hcz38_0
                            try clear hcz38_1
                            try clear hcz38_2
                            try clear hcz38_3
                            try clear hcz38_4
                            try clear hcz38_5
                            try clear hcz41_0
                            try clear hcz41_1
                            try clear hcz47_0
                            try clear hcz47_1
                            try clear hcz48_0
                            try clear hcz48_1
                            try clear hcz48_2
                            try clear hcz48_3
                            try clear hcz48_4
                            try clear hcz48_5
                            try clear hcz50_0
                            try clear hcz50_1
                            try clear hcz51_0
                            try clear hcz51_1
                            try clear hcz51_2
                            try clear hcz51_3
                            try clear hcz51_4
                            try clear hcz51_5
                            try clear hcz53_0
                            try clear hcz53_1
                            try clear hcz54_0
                            try clear hcz54_1
                            try clear hcz54_2
                            try clear hcz54_3
                            try clear hcz54_4
                            try clear hcz54_5
                            try clear hcz56_0
                            try clear hcz56_1
                            try clear hcz57_0
                            try clear hcz57_1
                            try clear hcz57_2
                            try clear hcz57_3
                            try clear hcz57_4
                            try clear hcz57_5
                            try clear hcz5_0
                            try clear hcz5_1
                            try clear hcz5_2
                            try clear hcz5_3
                            try clear hcz5_4
                            try clear hcz5_5
                            try clear hcz7_0
                            try clear hcz7_1
                            try clear hcz7_2
                            try clear hcz7_3
                            try clear hcz7_4
                            try clear hcz7_5
                            try clear hcz9_0
                            try clear hcz9_1
                            try clear hcz9_2
                            try clear hcz9_3
                            try clear hcz9_4
                            try clear hcz9_5
                            try clear hfz11_0
                            try clear hfz11_1
                            try clear hfz11_2
                            try clear hfz11_3
                            try clear hfz11_4
                            try clear hfz11_5
                            try clear hfz13_0
                            try clear hfz13_1
                            try clear hfz13_2
                            try clear hfz13_3
                            try clear hfz13_4
                            try clear hfz13_5
                            try clear hfz14_0
                            try clear hfz14_1
                            try clear hfz14_2
                            try clear hfz14_3
                            try clear hfz14_4
                            try clear hfz14_5
                            try clear hfz23_0
                            try clear hfz23_1
                            try clear hfz23_2
                            try clear hfz23_3
                            try clear hfz23_4
                            try clear hfz23_5
                            try clear hfz30_0
                            try clear hfz30_1
                            try clear hfz30_2
                            try clear hfz30_3
                            try clear hfz30_4
                            try clear hfz30_5
                            try clear hfz31_0
                            try clear hfz31_1
                            try clear hfz31_2
                            try clear hfz31_3
                            try clear hfz31_4
                            try clear hfz31_5
                            try clear hfz32_0
                            try clear hfz32_1
                            try clear hfz32_2
                            try clear hfz32_3
                            try clear hfz32_4
                            try clear hfz32_5
                            try clear hfz33_0
                            try clear hfz33_1
                            try clear hfz33_2
                            try clear hfz33_3
                            try clear hfz33_4
                            try clear hfz33_5
                            try clear hfz38_0
                            try clear hfz38_1
                            try clear hfz38_2
                            try clear hfz38_3
                            try clear hfz38_4
                            try clear hfz38_5
                            try clear hfz41_0
                            try clear hfz41_1
                            try clear hfz47_0
                            try clear hfz47_1
                            try clear hfz48_0
                            try clear hfz48_1
                            try clear hfz48_2
                            try clear hfz48_3
                            try clear hfz48_4
                            try clear hfz48_5
                            try clear hfz50_0
                            try clear hfz50_1
                            try clear hfz51_0
                            try clear hfz51_1
                            try clear hfz51_2
                            try clear hfz51_3
                            try clear hfz51_4
                            try clear hfz51_5
                            try clear hfz53_0
                            try clear hfz53_1
                            try clear hfz54_0
                            try clear hfz54_1
                            try clear hfz54_2
                            try clear hfz54_3
                            try clear hfz54_4
                            try clear hfz54_5
                            try clear hfz56_0
                            try clear hfz56_1
                            try clear hfz57_0
                            try clear hfz57_1
                            try clear hfz57_2
                            try clear hfz57_3
                            try clear hfz57_4
                            try clear hfz57_5
                            try clear hfz5_0
                            try clear hfz5_1
                            try clear hfz5_2
                            try clear hfz5_3
                            try clear hfz5_4
                            try clear hfz5_5
                            try clear hfz7_0
                            try clear hfz7_1
                            try clear hfz7_2
                            try clear hfz7_3
                            try clear hfz7_4
                            try clear hfz7_5
                            try clear hfz9_0
                            try clear hfz9_1
                            try clear hfz9_2
                            try clear hfz9_3
                            try clear hfz9_4
                            try clear hfz9_5
                            try clear hx118_0
                            try clear hx118_1
                            try clear p118
                            try clear p2
                            try clear p6
                            try clear q118
                            obtain ⟨kq, x133_36, rfl, HA, HJ36, BK117, BK119, HB⟩ := hcut
                            cases kq with
                            | zero => exact absurd HA.out (by simp [weftlaw10_sound.j3])
                            | succ kj36 =>
                              have H := HA.out
                              clear HA
                              simp only [weftlaw10_sound.j3] at H
                              by_cases c58 : x133_36 = true
                              · subst c58
                                have H1 : (some false) = some r := by rw [if_pos rfl] at H; exact H
                                clear H
                                have H := H1
                                clear H1
                                obtain rfl := Option.some.inj H
                                go_wp2
                                go_ret
                                exact ⟨by first | rfl | (simp [errW_none, errW_some] <;> rfl) | (simp only [← hji16, ← hji18, ← hji19, ← hji21]; first | rfl | (simp [errW_none, errW_some] <;> rfl)) | (simp [*, errW_none, errW_some] <;> rfl), by repeat (first | (with_reducible first | exact HB.out | apply below_alloc | apply pw_below_drewN | apply below_drew1 | refine below_set ?_ GE117.out | refine below_set ?_ GE119.out) | exact HB.out)⟩
                              · replace c58 := Bool.eq_false_iff.mpr c58
                                subst c58
                                have H1 : (if 0 ≤ x6_3 then (if x6_3 ≤ (l0_5.length : Int) then ((weftlaw10_has.f kj36 (l0_5.take (x6_3 : Int).toNat) ((rd_T27 l0_5 x6_3).f0) ((rd_T27 l0_5 x6_3).f1)).bind fun t124 => (if t124 = true then (some false) else (weftlaw10_sound.l0 kj36 ji18 ji21 (wrap64 (a0_0)) (wrap64 (x6_3 + 1)) a0_0 a0_1 a0_2 a0_3 a0_4 l0_5))) else (none)) else (none)) = some r := by rw [if_neg (show ¬ (false = true) by decide)] at H; exact H
                                clear H
                                have H := H1
                                clear H1
                                by_cases c59 : 0 ≤ x6_3
                                · rw [if_pos c59] at H
                                  have c59b0 := eq_true c59
                                  have c59b1 : decide (0 ≤ x6_3) = true := decide_eq_true c59
                                  clear c59
                                  by_cases c60 : x6_3 ≤ (l0_5.length : Int)
                                  · rw [if_pos c60] at H
                                    have c60b0 := eq_true c60
                                    have c60b1 : decide (x6_3 ≤ (l0_5.length : Int)) = true := decide_eq_true c60
                                    clear c60
                                    obtain ⟨y120, hy120⟩ : ∃ y_ : List (S27), y_ = (l0_5.take (x6_3 : Int).toNat) := ⟨_, rfl⟩
                                    replace H : ((weftlaw10_has.f kj36 y120 ((rd_T27 l0_5 x6_3).f0) ((rd_T27 l0_5 x6_3).f1)).bind fun t124 => (if t124 = true then (some false) else (weftlaw10_sound.l0 kj36 ji18 ji21 (wrap64 (a0_0)) (wrap64 (x6_3 + 1)) a0_0 a0_1 a0_2 a0_3 a0_4 l0_5))) = some r := by first | (rw [hy120]; with_reducible exact H) | (have H2_ := (Option.bind_some _ _).symm.trans H; rw [hy120]; with_reducible exact H2_) | (have H2_ := (Option.bind_some _ _).symm.trans H; with_reducible exact H2_) | with_reducible exact H | (rw [hy120]; exact H) | exact H
                                    have Ny120 := Aside0.mk hy120
                                    clear hy120
                                    replace H := Option.bind_eq_some_iff.mp H
                                    obtain ⟨t124, A610, H⟩ := H
                                    replace H : (if t124 = true then (some false) else (weftlaw10_sound.l0 kj36 ji18 ji21 (wrap64 (a0_0)) (wrap64 (x6_3 + 1)) a0_0 a0_1 a0_2 a0_3 a0_4 l0_5)) = some r := H
                                    have A61 := Aside0.mk A610
                                    clear A610
                                    by_cases c62 : t124 = true
                                    · subst c62
                                      have H1 : (some false) = some r := by rw [if_pos rfl] at H; exact H
                                      clear H
                                      have H := H1
                                      clear H1
                                      obtain rfl := Option.some.inj H
                                      try go_wp2
                                      have n0_ := Aside0.mk (blk_drew BK117.out)
                                      have n1_ := Aside0.mk (blk_drew BK119.out)
                                      have n2_ := Aside0.mk (below_drew1 HB.out)
                                      clear BK117
                                      clear BK119
                                      clear HB
                                      have BK117 := n0_
                                      have BK119 := n1_
                                      have HB := n2_
                                      clear n0_ n1_ n2_
                                      have q64 : (x6_3 : Int) ≤ ((l0_5.length : Int) : Int) := of_decide_eq_true (by first | (with_reducible assumption) | assumption)
                                      obtain ⟨i064, hi064, _, hsz64, _⟩ := info_parts info27
                                      have hroom64 : l0_5.length ≤ c0_5 := HC0_5.out
                                      have hC64 : Kd.C k27 _ (some ad118) l0_5.length l0_5 := HR0_5.out
                                      have hcut64 := cut_to (P := Try.prog) 28 27 .i64 Try.underlying28 hi064 (some ad118) l0_5.length c0_5 x6_3 (of_decide_eq_true (by first | (with_reducible assumption) | assumption)) q64 hroom64
                                      have hr64 := Kd.C_take (m := (x6_3 : Int).toNat) hC64 (by omega)
                                      have hy64 : y120.length = (x6_3 : Int).toNat := (by rw [Ny120.out, List.length_take]; omega)
                                      rw [← Ny120.out] at hr64
                                      rw [← hy64] at hcut64
                                      have HR123 := Aside0.mk hr64
                                      have HC123 := Aside0.mk (show y120.length ≤ c0_5 from by omega)
                                      clear hr64 hC64 hroom64 hi064 hsz64
                                      have KY64 := Aside0.mk hy64
                                      clear hy64
                                      replace q64 := eq_true q64
                                      refine start_ (n := 6) (S := fun w' => w'.cell? ⟨gb117, 0, none⟩ = some (.int .u32 a0_0) ∧ w'.cell? ⟨gb117, 1, none⟩ = some (.int .i64 a0_1) ∧ w'.cell? ⟨gb117, 2, none⟩ = some (.int .i64 a0_2) ∧ w'.cell? ⟨gb117, 3, none⟩ = some (.int .u32 a0_3) ∧ w'.cell? ⟨gb117, 4, none⟩ = some (.int .u32 a0_4) ∧ w'.cell? ⟨gb117, 5, none⟩ = some (.slice (some ad118) l0_5.length c0_5) ∧ w'.cell? ⟨gb119, 0, none⟩ = some (.int .u32 ((rd_T27 l0_5 x6_3).f0)) ∧ w'.cell? ⟨gb119, 1, none⟩ = some (.int .i64 ((rd_T27 l0_5 x6_3).f1))) (ds := []) #[false, false, false, false, false, false] (by kernel_rfl) rfl rfl ⟨(blk_cell BK117.out 0).trans rfl, (blk_cell BK117.out 1).trans rfl, (blk_cell BK117.out 2).trans rfl, (blk_cell BK117.out 3).trans rfl, (blk_cell BK117.out 4).trans rfl, (blk_cell BK117.out 5).trans rfl, (blk_cell BK119.out 0).trans rfl, (blk_cell BK119.out 1).trans rfl⟩ (fun hHeld => ?_)
                                      generalize wc.drew = w63 at BK117 BK119 HB HR123 hHeld ⊢
                                      refine pure_ (i := 0) (N := some 134) (v := ?_) (a' := ?_) #[true, false, false, false, false, false] rfl rfl (by kernel_rfl) (fun _ _ _ h => h) (Or.inl ⟨by rfl, ?_⟩) ?_ ?_
                                      rotate_left
                                      · intro w'
                                        go_simp
                                        with_reducible rfl
                                      rotate_left
                                      · simp only [Act.put, List.setIfInBounds_toArray, List.set_cons_zero, List.set_cons_succ, i64_w, i32_w]
                                        rfl
                                      refine pure_ (i := 2) (N := some 136) (v := ?_) (a' := ?_) #[true, false, true, false, false, false] rfl rfl (by kernel_rfl) (fun _ _ _ h => h) (Or.inl ⟨by rfl, ?_⟩) ?_ ?_
                                      rotate_left
                                      · intro w'
                                        go_simp
                                        with_reducible rfl
                                      rotate_left
                                      · simp only [Act.put, List.setIfInBounds_toArray, List.set_cons_zero, List.set_cons_succ, i64_w, i32_w]
                                        rfl
                                      refine take_ (i := 1) (N := some 135) (v := ?_) (a' := ?_) #[true, true, true, false, false, false] rfl rfl (by kernel_rfl) (fun _ _ _ h => h) (Or.inl ⟨by rfl, ?_⟩) hHeld ?_ ?_
                                      rotate_left
                                      · rintro w' ⟨s0, s1, s2, s3, s4, s5, s6, s7⟩
                                        go_simp
                                        with_reducible rfl
                                      rotate_left
                                      · simp only [Act.put, List.setIfInBounds_toArray, List.set_cons_zero, List.set_cons_succ, i64_w, i32_w]
                                        rfl
                                      refine pure_ (i := 3) (N := some 137) (v := ?_) (a' := ?_) #[true, true, true, true, false, false] rfl rfl (by kernel_rfl) (fun _ _ _ h => h) (Or.inl ⟨by rfl, ?_⟩) ?_ ?_
                                      rotate_left
                                      · intro w'
                                        go_simp
                                        with_reducible rfl
                                      rotate_left
                                      · simp only [Act.put, List.setIfInBounds_toArray, List.set_cons_zero, List.set_cons_succ, i64_w, i32_w]
                                        rfl
                                      refine take_ (i := 4) (N := some 138) (v := ?_) (a' := ?_) #[true, true, true, true, true, false] rfl rfl (by kernel_rfl) (fun _ _ _ h => h) (Or.inl ⟨by rfl, ?_⟩) hHeld ?_ ?_
                                      rotate_left
                                      · rintro w' ⟨s0, s1, s2, s3, s4, s5, s6, s7⟩
                                        go_simp
                                        with_reducible rfl
                                      rotate_left
                                      · simp only [Act.put, List.setIfInBounds_toArray, List.set_cons_zero, List.set_cons_succ, i64_w, i32_w]
                                        rfl
                                      refine one_ (i := 5) (N := some 139) #[true, true, true, true, true, true] rfl rfl (by kernel_rfl) (by decide) (fun K hK => ?_)
                                      refine goes_ Try.func21 (by kernel_rfl) rfl #[.slice (some ad118) y120.length c0_5, .agg #[.int .u32 ((rd_T27 l0_5 x6_3).f0), .int .i64 ((rd_T27 l0_5 x6_3).f1)]] (by rfl) rfl rfl (by (try simp only [List.map_toArray, List.map_cons, List.map_nil]); first | done | rfl | (simp only [List.length_drop, List.length_take]; rfl)) ?_
                                      with_reducible refine (weftlaw10_has.calls kj36 _ _ y120 ((rd_T27 l0_5 x6_3).f0) ((rd_T27 l0_5 x6_3).f1) true _ ?side1 ?side2 A61.out).mono ?_
                                      (case side1 => repeat (first | exact (Kd.C_below HR123.out HB.out) | (with_reducible refine Kd.C_alloc ?_ _) | (with_reducible refine Kd.C_drewN ?_ _) | (with_reducible refine Kd.C_drew ?_)))
                                      (case side2 => exact HC123.out)
                                      rintro e w65 ⟨rfl, hb⟩
                                      refine ⟨_, rfl, ?_⟩
                                      have n0_ := Aside0.mk (blk_below (g := gb117) (o := .cells #[.int .u32 a0_0, .int .i64 a0_1, .int .i64 a0_2, .int .u32 a0_3, .int .u32 a0_4, .slice (some ad118) l0_5.length c0_5] 30 (0, 0)) (by (with_reducible repeat (first | refine blk_drewN ?_ _ | refine blk_drew ?_ | refine blk_alloc ?_ _)); exact BK117.out) hb)
                                      have n1_ := Aside0.mk (blk_below (g := gb119) (o := .cells #[.int .u32 ((rd_T27 l0_5 x6_3).f0), .int .i64 ((rd_T27 l0_5 x6_3).f1)] 27 (0, 0)) (by (with_reducible repeat (first | refine blk_drewN ?_ _ | refine blk_drew ?_ | refine blk_alloc ?_ _)); exact BK119.out) hb)
                                      have n2_ := Aside0.mk (below_step (by repeat (first | (with_reducible first | exact HB.out | apply below_alloc | apply pw_below_drewN | apply below_drew1 | refine below_set ?_ GE117.out | refine below_set ?_ GE119.out) | exact HB.out)) hb)
                                      clear BK117
                                      clear BK119
                                      clear HB
                                      have BK117 := n0_
                                      have BK119 := n1_
                                      have HB := n2_
                                      clear n0_ n1_ n2_
                                      (try clear hb)
                                      (try clear hb2)
                                      (try clear hk)
                                      (try clear hi)
                                      refine hK.out _ _ ⟨(blk_cell BK117.out 0).trans rfl, (blk_cell BK117.out 1).trans rfl, (blk_cell BK117.out 2).trans rfl, (blk_cell BK117.out 3).trans rfl, (blk_cell BK117.out 4).trans rfl, (blk_cell BK117.out 5).trans rfl, (blk_cell BK119.out 0).trans rfl, (blk_cell BK119.out 1).trans rfl⟩ (fun hHeld => ?_)
                                      clear hK K
                                      refine norm_ (a' := ?_) ?_ ?_
                                      rotate_left
                                      · show Act.put _ (some 139) _ = _
                                        simp only [Act.put, List.setIfInBounds_toArray, List.set_cons_zero, List.set_cons_succ, i64_w, i32_w]
                                        rfl
                                      refine done_ (by kernel_rfl) ?_
                                      try go_wp2
                                      go_ret
                                      exact ⟨by first | rfl | (simp [errW_none, errW_some] <;> rfl) | (simp only [← hji16, ← hji18, ← hji19, ← hji21]; first | rfl | (simp [errW_none, errW_some] <;> rfl)) | (simp [*, errW_none, errW_some] <;> rfl), by repeat (first | (with_reducible first | exact HB.out | apply below_alloc | apply pw_below_drewN | apply below_drew1 | refine below_set ?_ GE117.out | refine below_set ?_ GE119.out) | exact HB.out)⟩
                                    · replace c62 := Bool.eq_false_iff.mpr c62
                                      subst c62
                                      have H1 : (weftlaw10_sound.l0 kj36 ji18 ji21 (wrap64 (a0_0)) (wrap64 (x6_3 + 1)) a0_0 a0_1 a0_2 a0_3 a0_4 l0_5) = some r := by rw [if_neg (show ¬ (false = true) by decide)] at H; exact H
                                      clear H
                                      have H := H1
                                      clear H1
                                      have H' := Aside0.mk H
                                      clear H
                                      try go_wp2
                                      have n0_ := Aside0.mk (blk_drew BK117.out)
                                      have n1_ := Aside0.mk (blk_drew BK119.out)
                                      have n2_ := Aside0.mk (below_drew1 HB.out)
                                      clear BK117
                                      clear BK119
                                      clear HB
                                      have BK117 := n0_
                                      have BK119 := n1_
                                      have HB := n2_
                                      clear n0_ n1_ n2_
                                      have q67 : (x6_3 : Int) ≤ ((l0_5.length : Int) : Int) := of_decide_eq_true (by first | (with_reducible assumption) | assumption)
                                      obtain ⟨i067, hi067, _, hsz67, _⟩ := info_parts info27
                                      have hroom67 : l0_5.length ≤ c0_5 := HC0_5.out
                                      have hC67 : Kd.C k27 _ (some ad118) l0_5.length l0_5 := HR0_5.out
                                      have hcut67 := cut_to (P := Try.prog) 28 27 .i64 Try.underlying28 hi067 (some ad118) l0_5.length c0_5 x6_3 (of_decide_eq_true (by first | (with_reducible assumption) | assumption)) q67 hroom67
                                      have hr67 := Kd.C_take (m := (x6_3 : Int).toNat) hC67 (by omega)
                                      have hy67 : y120.length = (x6_3 : Int).toNat := (by rw [Ny120.out, List.length_take]; omega)
                                      rw [← Ny120.out] at hr67
                                      rw [← hy67] at hcut67
                                      have HR123 := Aside0.mk hr67
                                      have HC123 := Aside0.mk (show y120.length ≤ c0_5 from by omega)
                                      clear hr67 hC67 hroom67 hi067 hsz67
                                      have KY67 := Aside0.mk hy67
                                      clear hy67
                                      replace q67 := eq_true q67
                                      refine start_ (n := 6) (S := fun w' => w'.cell? ⟨gb117, 0, none⟩ = some (.int .u32 a0_0) ∧ w'.cell? ⟨gb117, 1, none⟩ = some (.int .i64 a0_1) ∧ w'.cell? ⟨gb117, 2, none⟩ = some (.int .i64 a0_2) ∧ w'.cell? ⟨gb117, 3, none⟩ = some (.int .u32 a0_3) ∧ w'.cell? ⟨gb117, 4, none⟩ = some (.int .u32 a0_4) ∧ w'.cell? ⟨gb117, 5, none⟩ = some (.slice (some ad118) l0_5.length c0_5) ∧ w'.cell? ⟨gb119, 0, none⟩ = some (.int .u32 ((rd_T27 l0_5 x6_3).f0)) ∧ w'.cell? ⟨gb119, 1, none⟩ = some (.int .i64 ((rd_T27 l0_5 x6_3).f1))) (ds := []) #[false, false, false, false, false, false] (by kernel_rfl) rfl rfl ⟨(blk_cell BK117.out 0).trans rfl, (blk_cell BK117.out 1).trans rfl, (blk_cell BK117.out 2).trans rfl, (blk_cell BK117.out 3).trans rfl, (blk_cell BK117.out 4).trans rfl, (blk_cell BK117.out 5).trans rfl, (blk_cell BK119.out 0).trans rfl, (blk_cell BK119.out 1).trans rfl⟩ (fun hHeld => ?_)
                                      generalize wc.drew = w66 at BK117 BK119 HB HR123 hHeld ⊢
                                      refine pure_ (i := 0) (N := some 134) (v := ?_) (a' := ?_) #[true, false, false, false, false, false] rfl rfl (by kernel_rfl) (fun _ _ _ h => h) (Or.inl ⟨by rfl, ?_⟩) ?_ ?_
                                      rotate_left
                                      · intro w'
                                        go_simp
                                        with_reducible rfl
                                      rotate_left
                                      · simp only [Act.put, List.setIfInBounds_toArray, List.set_cons_zero, List.set_cons_succ, i64_w, i32_w]
                                        rfl
                                      refine pure_ (i := 2) (N := some 136) (v := ?_) (a' := ?_) #[true, false, true, false, false, false] rfl rfl (by kernel_rfl) (fun _ _ _ h => h) (Or.inl ⟨by rfl, ?_⟩) ?_ ?_
                                      rotate_left
                                      · intro w'
                                        go_simp
                                        with_reducible rfl
                                      rotate_left
                                      · simp only [Act.put, List.setIfInBounds_toArray, List.set_cons_zero, List.set_cons_succ, i64_w, i32_w]
                                        rfl
                                      refine take_ (i := 1) (N := some 135) (v := ?_) (a' := ?_) #[true, true, true, false, false, false] rfl rfl (by kernel_rfl) (fun _ _ _ h => h) (Or.inl ⟨by rfl, ?_⟩) hHeld ?_ ?_
                                      rotate_left
                                      · rintro w' ⟨s0, s1, s2, s3, s4, s5, s6, s7⟩
                                        go_simp
                                        with_reducible rfl
                                      rotate_left
                                      · simp only [Act.put, List.setIfInBounds_toArray, List.set_cons_zero, List.set_cons_succ, i64_w, i32_w]
                                        rfl
                                      refine pure_ (i := 3) (N := some 137) (v := ?_) (a' := ?_) #[true, true, true, true, false, false] rfl rfl (by kernel_rfl) (fun _ _ _ h => h) (Or.inl ⟨by rfl, ?_⟩) ?_ ?_
                                      rotate_left
                                      · intro w'
                                        go_simp
                                        with_reducible rfl
                                      rotate_left
                                      · simp only [Act.put, List.setIfInBounds_toArray, List.set_cons_zero, List.set_cons_succ, i64_w, i32_w]
                                        rfl
                                      refine take_ (i := 4) (N := some 138) (v := ?_) (a' := ?_) #[true, true, true, true, true, false] rfl rfl (by kernel_rfl) (fun _ _ _ h => h) (Or.inl ⟨by rfl, ?_⟩) hHeld ?_ ?_
                                      rotate_left
                                      · rintro w' ⟨s0, s1, s2, s3, s4, s5, s6, s7⟩
                                        go_simp
                                        with_reducible rfl
                                      rotate_left
                                      · simp only [Act.put, List.setIfInBounds_toArray, List.set_cons_zero, List.set_cons_succ, i64_w, i32_w]
                                        rfl
                                      refine one_ (i := 5) (N := some 139) #[true, true, true, true, true, true] rfl rfl (by kernel_rfl) (by decide) (fun K hK => ?_)
                                      refine goes_ Try.func21 (by kernel_rfl) rfl #[.slice (some ad118) y120.length c0_5, .agg #[.int .u32 ((rd_T27 l0_5 x6_3).f0), .int .i64 ((rd_T27 l0_5 x6_3).f1)]] (by rfl) rfl rfl (by (try simp only [List.map_toArray, List.map_cons, List.map_nil]); first | done | rfl | (simp only [List.length_drop, List.length_take]; rfl)) ?_
                                      with_reducible refine (weftlaw10_has.calls kj36 _ _ y120 ((rd_T27 l0_5 x6_3).f0) ((rd_T27 l0_5 x6_3).f1) false _ ?side1 ?side2 A61.out).mono ?_
                                      (case side1 => repeat (first | exact (Kd.C_below HR123.out HB.out) | (with_reducible refine Kd.C_alloc ?_ _) | (with_reducible refine Kd.C_drewN ?_ _) | (with_reducible refine Kd.C_drew ?_)))
                                      (case side2 => exact HC123.out)
                                      rintro e w68 ⟨rfl, hb⟩
                                      refine ⟨_, rfl, ?_⟩
                                      have n0_ := Aside0.mk (blk_below (g := gb117) (o := .cells #[.int .u32 a0_0, .int .i64 a0_1, .int .i64 a0_2, .int .u32 a0_3, .int .u32 a0_4, .slice (some ad118) l0_5.length c0_5] 30 (0, 0)) (by (with_reducible repeat (first | refine blk_drewN ?_ _ | refine blk_drew ?_ | refine blk_alloc ?_ _)); exact BK117.out) hb)
                                      have n1_ := Aside0.mk (blk_below (g := gb119) (o := .cells #[.int .u32 ((rd_T27 l0_5 x6_3).f0), .int .i64 ((rd_T27 l0_5 x6_3).f1)] 27 (0, 0)) (by (with_reducible repeat (first | refine blk_drewN ?_ _ | refine blk_drew ?_ | refine blk_alloc ?_ _)); exact BK119.out) hb)
                                      have n2_ := Aside0.mk (below_step (by repeat (first | (with_reducible first | exact HB.out | apply below_alloc | apply pw_below_drewN | apply below_drew1 | refine below_set ?_ GE117.out | refine below_set ?_ GE119.out) | exact HB.out)) hb)
                                      clear BK117
                                      clear BK119
                                      clear HB
                                      have BK117 := n0_
                                      have BK119 := n1_
                                      have HB := n2_
                                      clear n0_ n1_ n2_
                                      (try clear hb)
                                      (try clear hb2)
                                      (try clear hk)
                                      (try clear hi)
                                      refine hK.out _ _ ⟨(blk_cell BK117.out 0).trans rfl, (blk_cell BK117.out 1).trans rfl, (blk_cell BK117.out 2).trans rfl, (blk_cell BK117.out 3).trans rfl, (blk_cell BK117.out 4).trans rfl, (blk_cell BK117.out 5).trans rfl, (blk_cell BK119.out 0).trans rfl, (blk_cell BK119.out 1).trans rfl⟩ (fun hHeld => ?_)
                                      clear hK K
                                      refine norm_ (a' := ?_) ?_ ?_
                                      rotate_left
                                      · show Act.put _ (some 139) _ = _
                                        simp only [Act.put, List.setIfInBounds_toArray, List.set_cons_zero, List.set_cons_succ, i64_w, i32_w]
                                        rfl
                                      refine done_ (by kernel_rfl) ?_
                                      try go_wp2
                                      go_roundg kj36
                                      case measure => have := HJ1.out; have := HJ21.out; have := HK3.out; have := HJ36.out; omega
                                      case rel => exact ⟨(wrap64 (x6_3 + 1)), (by first | rfl | (simp; done) | (simp [*]; done)), H', ⟨by have := HJ1.out; have := HJ21.out; have := HK3.out; have := HJ36.out; omega⟩, ⟨by (with_reducible repeat (first | refine blk_drewN ?_ _ | refine blk_drew ?_ | refine blk_alloc ?_ _)); exact BK117.out⟩, ⟨by repeat (first | (with_reducible first | exact HB.out | apply below_alloc | apply pw_below_drewN | apply below_drew1 | refine below_set ?_ GE117.out | refine below_set ?_ GE119.out) | exact HB.out)⟩⟩
                                  · rw [if_neg c60] at H
                                    exact absurd H (by simp)
                                · rw [if_neg c59] at H
                                  exact absurd H (by simp)
                        · rw [if_neg c36] at H
                          exact absurd H (by simp)
                      · rw [if_neg c35] at H
                        have c35b0 : decide (x6_3 < (l0_5.length : Int)) = false := decide_eq_false c35
                        clear c35
                        obtain rfl := Option.some.inj H
                        have hcz69_0 : wr.cell? ⟨gb117, 0, none⟩ = some (.int .u32 a0_0) := (blk_cell BK117.out 0).trans rfl
                        have hcz69_1 : wr.cell? ⟨gb117, 1, none⟩ = some (.int .i64 a0_1) := (blk_cell BK117.out 1).trans rfl
                        have hcz69_2 : wr.cell? ⟨gb117, 2, none⟩ = some (.int .i64 a0_2) := (blk_cell BK117.out 2).trans rfl
                        have hcz69_3 : wr.cell? ⟨gb117, 3, none⟩ = some (.int .u32 a0_3) := (blk_cell BK117.out 3).trans rfl
                        have hcz69_4 : wr.cell? ⟨gb117, 4, none⟩ = some (.int .u32 a0_4) := (blk_cell BK117.out 4).trans rfl
                        have hcz69_5 : wr.cell? ⟨gb117, 5, none⟩ = some (.slice A0_5 l0_5.length c0_5) := (blk_cell BK117.out 5).trans rfl
                        have hfz69_0 := blk_frozen BK117.out 0
                        have hfz69_1 := blk_frozen BK117.out 1
                        have hfz69_2 := blk_frozen BK117.out 2
                        have hfz69_3 := blk_frozen BK117.out 3
                        have hfz69_4 := blk_frozen BK117.out 4
                        have hfz69_5 := blk_frozen BK117.out 5
                        go_wp2
                        go_ret
                        exact ⟨by first | rfl | (simp [errW_none, errW_some] <;> rfl) | (simp only [← hji16, ← hji18, ← hji19, ← hji21]; first | rfl | (simp [errW_none, errW_some] <;> rfl)) | (simp [*, errW_none, errW_some] <;> rfl), by repeat (first | (with_reducible first | exact HB.out | apply below_alloc | apply pw_below_drewN | apply below_drew1 | refine below_set ?_ GE117.out) | exact HB.out)⟩
          · rw [if_neg c20] at H
            exact absurd H (by simp)
        · rw [if_neg c17] at H
          exact absurd H (by simp)

end Go.Proofs.Ytebnlhjakiipjaa.PPlf
