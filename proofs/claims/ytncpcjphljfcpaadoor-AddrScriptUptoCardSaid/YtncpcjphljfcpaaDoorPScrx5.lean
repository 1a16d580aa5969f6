-- written by xp.sh, a program of this seat's session
import Derived.Test.YtncpcjphljfcpaaDoorPScrx0
import Derived.Test.YtncpcjphljfcpaaDoorPScrx3
import Derived.Test.YtncpcjphljfcpaaDoorPScrx4
namespace Go.Proofs.YtncpcjphljfcpaaDoor.PScr
open Go.RowKit Go.Proofs.YtncpcjphljfcpaaDoorW.PrintWords Go.Proofs.YtncpcjphljfcpaaDoorW.PrintLast Go.Proofs.YtncpcjphljfcpaaDoorW.PrintMore
attribute [local go_sem] max2_int min2_int max_two min_two max_three min_three max_four min_four   -- for this text's walks alone
set_option linter.unusedVariables false
set_option linter.unusedSimpArgs false

/-! ### weftref1_size: function 47 -/
def weftref1_size.l0 : Nat → Int → Int → Option (Int)
  | 0, _, _ => none
  | k + 1, x3, x4 => if x4 < 32 then (weftref1_size.l0 k (wrap64 (2 * x3)) (wrap64 (x4 + 1))) else (some x3)
def weftref1_size.f (k : Nat) (a0 : Int) : Option (Int) := weftref1_size.l0 k 1 a0
theorem weftref1_size.mono_l : ∀ k, (∀ y0 y1, LeO (weftref1_size.l0 k y0 y1) (weftref1_size.l0 (k + 1) y0 y1))
  | 0 => fun _ _ r h => by simp [weftref1_size.l0] at h
  | k + 1 => by
    have ih0 := weftref1_size.mono_l k
    · intro y0 y1
      unfold weftref1_size.l0
      repeat' first
      | (with_reducible exact ih0 _ _)
      | (with_reducible exact LeO.refl _)
      | (with_reducible exact LeO.none _)
      | (with_reducible refine LeO.ite ?_ ?_)
      | (with_reducible refine LeO.bind ?_ (fun _ => ?_))
      | exact ih0 _ _
      | exact LeO.none _
      | refine LeO.ite ?_ ?_
      | refine LeO.bind ?_ (fun _ => ?_)
theorem weftref1_size.mono : ∀ a0 k, LeO (weftref1_size.f k a0) (weftref1_size.f (k + 1) a0) := by
  intro a0 k
  have ih0 := weftref1_size.mono_l k
  unfold weftref1_size.f
  repeat' first
      | (with_reducible exact ih0 _ _)
      | (with_reducible exact LeO.refl _)
      | (with_reducible exact LeO.none _)
      | (with_reducible refine LeO.ite ?_ ?_)
      | (with_reducible refine LeO.bind ?_ (fun _ => ?_))
      | exact ih0 _ _
      | exact LeO.none _
      | refine LeO.ite ?_ ?_
      | refine LeO.bind ?_ (fun _ => ?_)
set_option maxHeartbeats 8000000 in
set_option maxRecDepth 100000 in
theorem weftref1_size.calls (k : Nat) (a0 : Int) (r : Int) (w : World) (h : weftref1_size.f k a0 = some r) :
    Calls Tryd.prog 47 #[.int .i64 a0] w fun e w' => e = .returned (.int .i64 r) ∧ Drawn0 w w' := by
  have H : (weftref1_size.l0 k 1 a0) = some r := h
  clear h
  have H' := Aside0.mk H
  clear H
  go_enter Tryd.func47, Tryd.ntmps47
  go_wp2
  go_loopg [3, 4] k (fun kq v3 v4 w' => ∃ (x3_1 : Int) (x4_1 : Int), v3 = .int .i64 x3_1 ∧ v4 = .int .i64 x4_1 ∧ Aside0 (weftref1_size.l0 kq x3_1 x4_1 = some r) ∧ Aside0 (kq ≤ k) ∧ Drawn0 w w')
  case atStart => exact ⟨(1), (a0), (by first | rfl | (simp; done) | (simp [*]; done)), (by first | rfl | (simp; done) | (simp [*]; done)), H', ⟨Nat.le_refl _⟩, by repeat (first | exact Drawn0.refl _ | apply Drawn0.step)⟩
  case round =>
    clear H'
    obtain ⟨x3_1, x4_1, rfl, rfl, HA, HK1, ⟨m1, rfl⟩⟩ := hrel
    cases gk with
    | zero => exact absurd HA.out (by simp [weftref1_size.l0])
    | succ k1 =>
      have H := HA.out
      clear HA
      simp only [weftref1_size.l0] at H
      by_cases c2 : x4_1 < 32
      · rw [if_pos c2] at H
        have c2b0 : decide (x4_1 < 32) = true := decide_eq_true c2
        clear c2
        have H' := Aside0.mk H
        clear H
        go_wp2
        go_roundg k1
        case measure => have := HK1.out; omega
        case rel => exact ⟨(wrap64 (2 * x3_1)), (wrap64 (x4_1 + 1)), (by first | rfl | (simp; done) | (simp [*]; done)), (by first | rfl | (simp; done) | (simp [*]; done)), H', ⟨by have := HK1.out; omega⟩, by repeat (first | exact Drawn0.refl _ | apply Drawn0.step)⟩
      · rw [if_neg c2] at H
        have c2b0 : decide (x4_1 < 32) = false := decide_eq_false c2
        clear c2
        obtain rfl := Option.some.inj H
        go_wp2
        go_ret
        exact ⟨by first | rfl | (simp; done) | (simp [*]; done), by repeat (first | exact Drawn0.refl _ | apply Drawn0.step)⟩

/-! ### weftref1_fault: function 40 -/
def weftref1_fault.j0 : Nat → Bool → Int → Int → Option (Int)
  | 0, _, _, _ => none
  | k + 1, x10, x122000, x122001 => if x10 = true then (some 11) else ((weftref1_size.f k x122001).bind fun t122 => (if t122 = 0 then (none) else (if (Int.tmod (wrap64 (x122000)) t122) = 0 then (some 0) else (some 12))))
def weftref1_fault.f (k : Nat) (a0_0 : Int) (a0_1 : Int) : Option (Int) := if a0_1 < 0 then (weftref1_fault.j0 k true a0_0 a0_1) else (weftref1_fault.j0 k (decide (a0_1 > 32)) a0_0 a0_1)
theorem weftref1_fault.mono_l : ∀ k, (∀ y0 y1 y2, LeO (weftref1_fault.j0 k y0 y1 y2) (weftref1_fault.j0 (k + 1) y0 y1 y2))
  | 0 => fun _ _ _ r h => by simp [weftref1_fault.j0] at h
  | k + 1 => by
    have ih0 := weftref1_fault.mono_l k
    · intro y0 y1 y2
      unfold weftref1_fault.j0
      repeat' first
      | (with_reducible exact ih0 _ _ _)
      | (with_reducible exact weftref1_size.mono _ _)
      | (with_reducible exact LeO.refl _)
      | (with_reducible exact LeO.none _)
      | (with_reducible refine LeO.ite ?_ ?_)
      | (with_reducible refine LeO.bind ?_ (fun _ => ?_))
      | exact ih0 _ _ _
      | exact weftref1_size.mono _ _
      | exact LeO.none _
      | refine LeO.ite ?_ ?_
      | refine LeO.bind ?_ (fun _ => ?_)
theorem weftref1_fault.mono : ∀ a0 a1 k, LeO (weftref1_fault.f k a0 a1) (weftref1_fault.f (k + 1) a0 a1) := by
  intro a0 a1 k
  have ih0 := weftref1_fault.mono_l k
  unfold weftref1_fault.f
  repeat' first
      | (with_reducible exact ih0 _ _ _)
      | (with_reducible exact weftref1_size.mono _ _)
      | (with_reducible exact LeO.refl _)
      | (with_reducible exact LeO.none _)
      | (with_reducible refine LeO.ite ?_ ?_)
      | (with_reducible refine LeO.bind ?_ (fun _ => ?_))
      | exact ih0 _ _ _
      | exact weftref1_size.mono _ _
      | exact LeO.none _
      | refine LeO.ite ?_ ?_
      | refine LeO.bind ?_ (fun _ => ?_)
set_option maxHeartbeats 8000000 in
set_option maxRecDepth 100000 in
theorem weftref1_fault.calls (k : Nat) (a0_0 : Int) (a0_1 : Int) (r : Int) (w : World) (h : weftref1_fault.f k a0_0 a0_1 = some r) :
    Calls Tryd.prog 40 #[.agg #[.int .u32 a0_0, .int .i64 a0_1]] w fun e w' => e = .returned (.int .i64 r) ∧ Below w.heap.size w w' := by
  have hu31 := Tryd.underlying31
  have HB := Aside0.mk (Below.refl w.heap.size w)
  have H : (if a0_1 < 0 then (weftref1_fault.j0 k true a0_0 a0_1) else (weftref1_fault.j0 k (decide (a0_1 > 32)) a0_0 a0_1)) = some r := h
  clear h
  have HC2 := Aside0.mk H
  clear H
  go_enter Tryd.func40, Tryd.ntmps40
  go_upto_region 1 with (first | ((with_reducible refine gate_dst (N := 1) rfl ?_); refine box_event ?hg (N := 1) ?hd (cs := #[.int .u32 a0_0, .int .i64 a0_1]) (t := 31) ?hr ?_; (case hd => rfl); (case hg => rfl); (case hr => first | (go_simp; done) | (go_simp; rfl)); intro gb121 hg w3 hbox hb; have n0_ := Aside0.mk (below_step (by repeat (first | (with_reducible first | exact HB.out | apply below_alloc | apply pw_below_drewN | apply below_drew1) | exact HB.out)) hb); have n1_ := Aside0.mk (hbox); have n2_ := Aside0.mk ((by rw [hg]; exact (below_size (by repeat (first | (with_reducible first | exact HB.out | apply below_alloc | apply pw_below_drewN | apply below_drew1) | exact HB.out))) : w.heap.size ≤ gb121)); have n3_ := Aside0.mk ((by rw [hg]; exact (below_size (by repeat (first | (with_reducible first | exact HB.out | apply below_alloc | apply pw_below_drewN | apply below_drew1) | exact HB.out))) : w.heap.size ≤ gb121)); clear HB; have HB := n0_; have BK121 := n1_; have GW121 := n2_; have GE121 := n3_; clear n0_ n1_ n2_ n3_; clear hb hbox hg))
  repeat (go_quiet (first | ((with_reducible refine gate_dst (N := 1) rfl ?_); refine box_event ?hg (N := 1) ?hd (cs := #[.int .u32 a0_0, .int .i64 a0_1]) (t := 31) ?hr ?_; (case hd => rfl); (case hg => rfl); (case hr => first | (go_simp; done) | (go_simp; rfl)); intro gb121 hg w3 hbox hb; have n0_ := Aside0.mk (below_step (by repeat (first | (with_reducible first | exact HB.out | apply below_alloc | apply pw_below_drewN | apply below_drew1) | exact HB.out)) hb); have n1_ := Aside0.mk (hbox); have n2_ := Aside0.mk ((by rw [hg]; exact (below_size (by repeat (first | (with_reducible first | exact HB.out | apply below_alloc | apply pw_below_drewN | apply below_drew1) | exact HB.out))) : w.heap.size ≤ gb121)); have n3_ := Aside0.mk ((by rw [hg]; exact (below_size (by repeat (first | (with_reducible first | exact HB.out | apply below_alloc | apply pw_below_drewN | apply below_drew1) | exact HB.out))) : w.heap.size ≤ gb121)); clear HB; have HB := n0_; have BK121 := n1_; have GW121 := n2_; have GE121 := n3_; clear n0_ n1_ n2_ n3_; clear hb hbox hg)); go_upto_region 1 with (first | ((with_reducible refine gate_dst (N := 1) rfl ?_); refine box_event ?hg (N := 1) ?hd (cs := #[.int .u32 a0_0, .int .i64 a0_1]) (t := 31) ?hr ?_; (case hd => rfl); (case hg => rfl); (case hr => first | (go_simp; done) | (go_simp; rfl)); intro gb121 hg w3 hbox hb; have n0_ := Aside0.mk (below_step (by repeat (first | (with_reducible first | exact HB.out | apply below_alloc | apply pw_below_drewN | apply below_drew1) | exact HB.out)) hb); have n1_ := Aside0.mk (hbox); have n2_ := Aside0.mk ((by rw [hg]; exact (below_size (by repeat (first | (with_reducible first | exact HB.out | apply below_alloc | apply pw_below_drewN | apply below_drew1) | exact HB.out))) : w.heap.size ≤ gb121)); have n3_ := Aside0.mk ((by rw [hg]; exact (below_size (by repeat (first | (with_reducible first | exact HB.out | apply below_alloc | apply pw_below_drewN | apply below_drew1) | exact HB.out))) : w.heap.size ≤ gb121)); clear HB; have HB := n0_; have BK121 := n1_; have GW121 := n2_; have GE121 := n3_; clear n0_ n1_ n2_ n3_; clear hb hbox hg)))
  (try simp only [Act.put, List.setIfInBounds_toArray, List.set_cons_zero, List.set_cons_succ])
  go_cut [10] (fun v10 wc => ∃ (kq : Nat) (x10_1 : Bool), v10 = .bool x10_1 ∧ Aside0 (weftref1_fault.j0 kq x10_1 a0_0 a0_1 = some r) ∧ Aside0 (kq ≤ k) ∧ Aside0 (wc.heap[gb121]? = some (.cells #[.int .u32 a0_0, .int .i64 a0_1] 31 (0, 0))) ∧ Aside0 (Below w.heap.size w wc))
  case first =>
    have H := HC2.out
    clear HC2
    by_cases c4 : a0_1 < 0
    · rw [if_pos c4] at H
      have c4b0 : decide (a0_1 < 0) = true := decide_eq_true c4
      clear c4
      (first | rw [c4b0] | (simp only [i64_w, i32_w]; rw [c4b0]) | skip)
      have H' := Aside0.mk H
      clear H
      have hcz5_0 : w3.cell? ⟨gb121, 0, none⟩ = some (.int .u32 a0_0) := (blk_cell BK121.out 0).trans rfl
      have hcz5_1 : w3.cell? ⟨gb121, 1, none⟩ = some (.int .i64 a0_1) := (blk_cell BK121.out 1).trans rfl
      have hfz5_0 := blk_frozen BK121.out 0
      have hfz5_1 := blk_frozen BK121.out 1
      go_wp2
      repeat (go_quiet (fail); try go_wp2)
      go_meet
      case rel => exact ⟨_, (true), (by first | rfl | (simp; done) | (simp [*]; done)), H', ⟨by first | omega | exact Nat.le_refl _⟩, ⟨by (with_reducible repeat (first | refine blk_drewN ?_ _ | refine blk_drew ?_ | refine blk_alloc ?_ _)); exact BK121.out⟩, ⟨by repeat (first | (with_reducible first | exact HB.out | apply below_alloc | apply pw_below_drewN | apply below_drew1 | refine below_set ?_ GE121.out) | exact HB.out)⟩⟩
    · rw [if_neg c4] at H
      have c4b0 : decide (a0_1 < 0) = false := decide_eq_false c4
      clear c4
      (first | rw [c4b0] | (simp only [i64_w, i32_w]; rw [c4b0]) | skip)
      have H' := Aside0.mk H
      clear H
      have hcz6_0 : w3.cell? ⟨gb121, 0, none⟩ = some (.int .u32 a0_0) := (blk_cell BK121.out 0).trans rfl
      have hcz6_1 : w3.cell? ⟨gb121, 1, none⟩ = some (.int .i64 a0_1) := (blk_cell BK121.out 1).trans rfl
      have hfz6_0 := blk_frozen BK121.out 0
      have hfz6_1 := blk_frozen BK121.out 1
      go_wp2
      repeat (go_quiet (fail); try go_wp2)
      go_meet
      case rel => exact ⟨_, (decide (a0_1 > 32)), (by first | rfl | (simp; done) | (simp [*]; done)), H', ⟨by first | omega | exact Nat.le_refl _⟩, ⟨by (with_reducible repeat (first | refine blk_drewN ?_ _ | refine blk_drew ?_ | refine blk_alloc ?_ _)); exact BK121.out⟩, ⟨by repeat (first | (with_reducible first | exact HB.out | apply below_alloc | apply pw_below_drewN | apply below_drew1 | refine below_set ?_ GE121.out) | exact HB.out)⟩⟩
  case rest =>
    clear HC2
    try clear p2
    try clear c4
    try clear c4b0
    try clear hcz5_0
    try clear hcz5_1
    try clear hcz6_0
    try clear hcz6_1
    try clear hfz5_0
    try clear hfz5_1
    try clear hfz6_0
    try clear hfz6_1
    obtain ⟨kq, x10_1, rfl, HA, HJ1, BK121, HB⟩ := hcut
    cases kq with
    | zero => exact absurd HA.out (by simp [weftref1_fault.j0])
    | succ kj1 =>
      have H := HA.out
      clear HA
      simp only [weftref1_fault.j0] at H
      by_cases c7 : x10_1 = true
      · subst c7
        have H1 : (some 11) = some r := by rw [if_pos rfl] at H; exact H
        clear H
        have H := H1
        clear H1
        obtain rfl := Option.some.inj H
        go_wp2
        repeat (go_quiet (fail); try go_wp2)
        go_ret
        exact ⟨by first | rfl | (simp [errW_none, errW_some] <;> rfl) | (simp [*, errW_none, errW_some] <;> rfl), by repeat (first | (with_reducible first | exact HB.out | apply below_alloc | apply pw_below_drewN | apply below_drew1 | refine below_set ?_ GE121.out) | exact HB.out)⟩
      · replace c7 := Bool.eq_false_iff.mpr c7
        subst c7
        have H1 : ((weftref1_size.f kj1 a0_1).bind fun t122 => (if t122 = 0 then (none) else (if (Int.tmod (wrap64 (a0_0)) t122) = 0 then (some 0) else (some 12)))) = some r := by rw [if_neg (show ¬ (false = true) by decide)] at H; exact H
        clear H
        have H := H1
        clear H1
        replace H := Option.bind_eq_some_iff.mp H
        obtain ⟨t122, A80, H⟩ := H
        replace H : (if t122 = 0 then (none) else (if (Int.tmod (wrap64 (a0_0)) t122) = 0 then (some 0) else (some 12))) = some r := H
        have A8 := Aside0.mk A80
        clear A80
        by_cases c9 : t122 = 0
        · rw [if_pos c9] at H
          exact absurd H (by simp)
        · rw [if_neg c9] at H
          have c9b0 : (t122 == 0) = false := beq_eq_false_iff_ne.mpr c9
          have c9b1 : (t122 != 0) = true := bne_iff_ne.mpr c9
          by_cases c10 : (Int.tmod (wrap64 (a0_0)) t122) = 0
          · rw [if_pos c10] at H
            have c10b0 : ((Int.tmod (wrap64 (a0_0)) t122) == 0) = true := beq_iff_eq.mpr c10
            have c10b1 : ((Int.tmod (wrap64 (a0_0)) t122) != 0) = false := bne_eq_false_iff_eq.mpr c10
            clear c10
            obtain rfl := Option.some.inj H
            have hcz11_0 : wc.cell? ⟨gb121, 0, none⟩ = some (.int .u32 a0_0) := (blk_cell BK121.out 0).trans rfl
            have hcz11_1 : wc.cell? ⟨gb121, 1, none⟩ = some (.int .i64 a0_1) := (blk_cell BK121.out 1).trans rfl
            have hfz11_0 := blk_frozen BK121.out 0
            have hfz11_1 := blk_frozen BK121.out 1
            go_wp2_with (first | (go_at_call 47; (with_reducible refine (weftref1_size.calls kj1 a0_1 t122 _ A8.out).mono ?_); rintro e w' ⟨rfl, ⟨nd, rfl⟩⟩; (try first | exact ⟨rfl, _, World.drewN_drewN _ _ _⟩ | exact ⟨rfl, _, Eq.trans (World.drewN_drewN _ _ _) (congrArg (World.drewN _) (Nat.add_assoc _ _ _))⟩)))
            repeat (go_quiet (first | (go_at_call 47; (with_reducible refine (weftref1_size.calls kj1 a0_1 t122 _ A8.out).mono ?_); rintro e w' ⟨rfl, ⟨nd, rfl⟩⟩; (try first | exact ⟨rfl, _, World.drewN_drewN _ _ _⟩ | exact ⟨rfl, _, Eq.trans (World.drewN_drewN _ _ _) (congrArg (World.drewN _) (Nat.add_assoc _ _ _))⟩))); try go_wp2_with (first | (go_at_call 47; (with_reducible refine (weftref1_size.calls kj1 a0_1 t122 _ A8.out).mono ?_); rintro e w' ⟨rfl, ⟨nd, rfl⟩⟩; (try first | exact ⟨rfl, _, World.drewN_drewN _ _ _⟩ | exact ⟨rfl, _, Eq.trans (World.drewN_drewN _ _ _) (congrArg (World.drewN _) (Nat.add_assoc _ _ _))⟩))))
            go_ret
            exact ⟨by first | rfl | (simp [errW_none, errW_some] <;> rfl) | (simp [*, errW_none, errW_some] <;> rfl), by repeat (first | (with_reducible first | exact HB.out | apply below_alloc | apply pw_below_drewN | apply below_drew1 | refine below_set ?_ GE121.out) | exact HB.out)⟩
          · rw [if_neg c10] at H
            have c10b0 : ((Int.tmod (wrap64 (a0_0)) t122) == 0) = false := beq_eq_false_iff_ne.mpr c10
            have c10b1 : ((Int.tmod (wrap64 (a0_0)) t122) != 0) = true := bne_iff_ne.mpr c10
            obtain rfl := Option.some.inj H
            have hcz12_0 : wc.cell? ⟨gb121, 0, none⟩ = some (.int .u32 a0_0) := (blk_cell BK121.out 0).trans rfl
            have hcz12_1 : wc.cell? ⟨gb121, 1, none⟩ = some (.int .i64 a0_1) := (blk_cell BK121.out 1).trans rfl
            have hfz12_0 := blk_frozen BK121.out 0
            have hfz12_1 := blk_frozen BK121.out 1
            go_wp2_with (first | (go_at_call 47; (with_reducible refine (weftref1_size.calls kj1 a0_1 t122 _ A8.out).mono ?_); rintro e w' ⟨rfl, ⟨nd, rfl⟩⟩; (try first | exact ⟨rfl, _, World.drewN_drewN _ _ _⟩ | exact ⟨rfl, _, Eq.trans (World.drewN_drewN _ _ _) (congrArg (World.drewN _) (Nat.add_assoc _ _ _))⟩)))
            repeat (go_quiet (first | (go_at_call 47; (with_reducible refine (weftref1_size.calls kj1 a0_1 t122 _ A8.out).mono ?_); rintro e w' ⟨rfl, ⟨nd, rfl⟩⟩; (try first | exact ⟨rfl, _, World.drewN_drewN _ _ _⟩ | exact ⟨rfl, _, Eq.trans (World.drewN_drewN _ _ _) (congrArg (World.drewN _) (Nat.add_assoc _ _ _))⟩))); try go_wp2_with (first | (go_at_call 47; (with_reducible refine (weftref1_size.calls kj1 a0_1 t122 _ A8.out).mono ?_); rintro e w' ⟨rfl, ⟨nd, rfl⟩⟩; (try first | exact ⟨rfl, _, World.drewN_drewN _ _ _⟩ | exact ⟨rfl, _, Eq.trans (World.drewN_drewN _ _ _) (congrArg (World.drewN _) (Nat.add_assoc _ _ _))⟩))))
            go_ret
            exact ⟨by first | rfl | (simp [errW_none, errW_some] <;> rfl) | (simp [*, errW_none, errW_some] <;> rfl), by repeat (first | (with_reducible first | exact HB.out | apply below_alloc | apply pw_below_drewN | apply below_drew1 | refine below_set ?_ GE121.out) | exact HB.out)⟩

/-! ### weftref1_ParsePrefix: function 15 -/
def weftref1_ParsePrefix.j0 : Nat → Int → Int → Bool → Option (Int × Int × Int)
  | 0, _, _, _ => none
  | k + 1, x5, x7, x37 => if x37 = true then (some (0, 0, 11)) else ((weftref1_fault.f k x5 x7).bind fun t129 => (if t129 = 0 then (some (x5, x7, 0)) else (some (0, 0, t129))))
def weftref1_ParsePrefix.f (k : Nat) (a0 : ByteArray) : Option (Int × Int × Int) := if (a0.size : Int) > 18 then (some (0, 0, 11)) else ((weftref1_until.f k a0 0 47).bind fun t124 => (if t124 = (a0.size : Int) then (some (0, 0, 11)) else (if 0 ≤ t124 then (if t124 ≤ (a0.size : Int) then ((weftref1_Parse.f k (a0.extract 0 (t124 : Int).toNat)).bind fun bt125 => (if 0 ≤ (wrap64 (t124 + 1)) then (if (wrap64 (t124 + 1)) ≤ (a0.size : Int) then ((weftref1_number.f k (a0.extract ((wrap64 (t124 + 1)) : Int).toNat a0.size) 32).bind fun t127 => (if bt125.2 = 0 then (weftref1_ParsePrefix.j0 k bt125.1 t127 (decide (t127 < 0))) else (weftref1_ParsePrefix.j0 k bt125.1 t127 true))) else (none)) else (none))) else (none)) else (none))))
theorem weftref1_ParsePrefix.mono_l : ∀ k, (∀ y0 y1 y2, LeO (weftref1_ParsePrefix.j0 k y0 y1 y2) (weftref1_ParsePrefix.j0 (k + 1) y0 y1 y2))
  | 0 => fun _ _ _ r h => by simp [weftref1_ParsePrefix.j0] at h
  | k + 1 => by
    have ih0 := weftref1_ParsePrefix.mono_l k
    · intro y0 y1 y2
      unfold weftref1_ParsePrefix.j0
      repeat' first
      | (with_reducible exact ih0 _ _ _)
      | (with_reducible exact weftref1_Parse.mono _ _)
      | (with_reducible exact weftref1_fault.mono _ _ _)
      | (with_reducible exact weftref1_number.mono _ _ _)
      | (with_reducible exact weftref1_until.mono _ _ _ _)
      | (with_reducible exact LeO.refl _)
      | (with_reducible exact LeO.none _)
      | (with_reducible refine LeO.ite ?_ ?_)
      | (with_reducible refine LeO.bind ?_ (fun _ => ?_))
      | exact ih0 _ _ _
      | exact weftref1_Parse.mono _ _
      | exact weftref1_fault.mono _ _ _
      | exact weftref1_number.mono _ _ _
      | exact weftref1_until.mono _ _ _ _
      | exact LeO.none _
      | refine LeO.ite ?_ ?_
      | refine LeO.bind ?_ (fun _ => ?_)
theorem weftref1_ParsePrefix.mono : ∀ a0 k, LeO (weftref1_ParsePrefix.f k a0) (weftref1_ParsePrefix.f (k + 1) a0) := by
  intro a0 k
  have ih0 := weftref1_ParsePrefix.mono_l k
  unfold weftref1_ParsePrefix.f
  repeat' first
      | (with_reducible exact ih0 _ _ _)
      | (with_reducible exact weftref1_Parse.mono _ _)
      | (with_reducible exact weftref1_fault.mono _ _ _)
      | (with_reducible exact weftref1_number.mono _ _ _)
      | (with_reducible exact weftref1_until.mono _ _ _ _)
      | (with_reducible exact LeO.refl _)
      | (with_reducible exact LeO.none _)
      | (with_reducible refine LeO.ite ?_ ?_)
      | (with_reducible refine LeO.bind ?_ (fun _ => ?_))
      | exact ih0 _ _ _
      | exact weftref1_Parse.mono _ _
      | exact weftref1_fault.mono _ _ _
      | exact weftref1_number.mono _ _ _
      | exact weftref1_until.mono _ _ _ _
      | exact LeO.none _
      | refine LeO.ite ?_ ?_
      | refine LeO.bind ?_ (fun _ => ?_)
set_option maxHeartbeats 8000000 in
set_option maxRecDepth 100000 in
theorem weftref1_ParsePrefix.calls (k : Nat) (a0 : ByteArray) (r1 : Int) (r2 : Int) (r3 : Int) (w : World) (hP : Pow w) (h : weftref1_ParsePrefix.f k a0 = some (r1, r2, r3)) :
    Calls Tryd.prog 15 #[.string a0] w fun e w' => e = .returned (.tuple #[.agg #[.int .u32 r1, .int .i64 r2], .int .i64 r3]) ∧ Below w.heap.size w w' := by
  have HP := Aside0.mk hP
  clear hP
  have hu31 := Tryd.underlying31
  have HB := Aside0.mk (Below.refl w.heap.size w)
  have H : (if (a0.size : Int) > 18 then (some (0, 0, 11)) else ((weftref1_until.f k a0 0 47).bind fun t124 => (if t124 = (a0.size : Int) then (some (0, 0, 11)) else (if 0 ≤ t124 then (if t124 ≤ (a0.size : Int) then ((weftref1_Parse.f k (a0.extract 0 (t124 : Int).toNat)).bind fun bt125 => (if 0 ≤ (wrap64 (t124 + 1)) then (if (wrap64 (t124 + 1)) ≤ (a0.size : Int) then ((weftref1_number.f k (a0.extract ((wrap64 (t124 + 1)) : Int).toNat a0.size) 32).bind fun t127 => (if bt125.2 = 0 then (weftref1_ParsePrefix.j0 k bt125.1 t127 (decide (t127 < 0))) else (weftref1_ParsePrefix.j0 k bt125.1 t127 true))) else (none)) else (none))) else (none)) else (none))))) = some (r1, r2, r3) := h
  clear h
  by_cases c2 : (a0.size : Int) > 18
  · rw [if_pos c2] at H
    have c2b0 : decide (18 < (a0.size : Int)) = true := decide_eq_true c2
    have c2b1 : decide (18 < a0.size) = true := decide_eq_true (by omega)
    clear c2
    simp only [Option.some.injEq, Prod.mk.injEq] at H
    obtain ⟨rfl, rfl, rfl⟩ := H
    go_enter Tryd.func15, Tryd.ntmps15
    go_wp2_with (first | ((with_reducible refine gate_dst (N := 2) rfl ?_); refine box_event ?hg (N := 2) ?hd (cs := #[.int .u32 0, .int .i64 0]) (t := 31) ?hr ?_; (case hd => rfl); (case hg => rfl); (case hr => first | (go_simp; done) | (go_simp; rfl)); intro gb123 hg w3 hbox hb; have n0_ := Aside0.mk (below_step (by repeat (first | (with_reducible first | exact HB.out | apply below_alloc | apply pw_below_drewN | apply below_drew1) | exact HB.out)) hb); have n1_ := Aside0.mk (hbox); have n2_ := Aside0.mk ((by rw [hg]; exact (below_size (by repeat (first | (with_reducible first | exact HB.out | apply below_alloc | apply pw_below_drewN | apply below_drew1) | exact HB.out))) : w.heap.size ≤ gb123)); have n3_ := Aside0.mk ((by rw [hg]; exact (below_size (by repeat (first | (with_reducible first | exact HB.out | apply below_alloc | apply pw_below_drewN | apply below_drew1) | exact HB.out))) : w.heap.size ≤ gb123)); clear HB; have HB := n0_; have BK123 := n1_; have GW123 := n2_; have GE123 := n3_; clear n0_ n1_ n2_ n3_; clear hb hbox hg; have hcz4_0 : w3.cell? ⟨gb123, 0, none⟩ = some (.int .u32 0) := (blk_cell BK123.out 0).trans rfl; have hcz4_1 : w3.cell? ⟨gb123, 1, none⟩ = some (.int .i64 0) := (blk_cell BK123.out 1).trans rfl; have hfz4_0 := blk_frozen BK123.out 0; have hfz4_1 := blk_frozen BK123.out 1))
    refine bodyPost_ret (results_ct rfl _ _ gb123 31 #[.int .u32 0, .int .i64 0] (0, 0) _ rfl (by (with_reducible repeat (first | refine blk_drewN ?_ _ | refine blk_drew ?_ | refine blk_alloc ?_ _)); refine blk_put (cs := #[.int .u32 0, .int .i64 0]) ?_ 1 _ rfl; (with_reducible repeat (first | refine blk_drewN ?_ _ | refine blk_drew ?_ | refine blk_alloc ?_ _)); refine blk_put (cs := #[.int .u32 0, .int .i64 0]) ?_ 0 _ rfl; (with_reducible repeat (first | refine blk_drewN ?_ _ | refine blk_drew ?_ | refine blk_alloc ?_ _)); exact BK123.out) Tryd.underlying31 rfl (by kernel_rfl)) rfl ?_
    exact ⟨by first | rfl | (simp [errW_none, errW_some] <;> rfl) | (simp [*, errW_none, errW_some] <;> rfl), by repeat (first | (with_reducible first | exact HB.out | apply below_alloc | apply pw_below_drewN | apply below_drew1 | refine below_set ?_ GE123.out) | exact HB.out)⟩
  · rw [if_neg c2] at H
    have c2b0 : decide (18 < (a0.size : Int)) = false := decide_eq_false c2
    have c2b1 : decide (18 < a0.size) = false := decide_eq_false (by omega)
    clear c2
    replace H := Option.bind_eq_some_iff.mp H
    obtain ⟨t124, A50, H⟩ := H
    replace H : (if t124 = (a0.size : Int) then (some (0, 0, 11)) else (if 0 ≤ t124 then (if t124 ≤ (a0.size : Int) then ((weftref1_Parse.f k (a0.extract 0 (t124 : Int).toNat)).bind fun bt125 => (if 0 ≤ (wrap64 (t124 + 1)) then (if (wrap64 (t124 + 1)) ≤ (a0.size : Int) then ((weftref1_number.f k (a0.extract ((wrap64 (t124 + 1)) : Int).toNat a0.size) 32).bind fun t127 => (if bt125.2 = 0 then (weftref1_ParsePrefix.j0 k bt125.1 t127 (decide (t127 < 0))) else (weftref1_ParsePrefix.j0 k bt125.1 t127 true))) else (none)) else (none))) else (none)) else (none))) = some (r1, r2, r3) := H
    have A5 := Aside0.mk A50
    clear A50
    by_cases c6 : t124 = (a0.size : Int)
    · rw [if_pos c6] at H
      have c6b0 : (t124 == (a0.size : Int)) = true := beq_iff_eq.mpr c6
      have c6b1 : (t124 != (a0.size : Int)) = false := bne_eq_false_iff_eq.mpr c6
      clear c6
      simp only [Option.some.injEq, Prod.mk.injEq] at H
      obtain ⟨rfl, rfl, rfl⟩ := H
      go_enter Tryd.func15, Tryd.ntmps15
      go_wp2_with (first | ((with_reducible refine gate_dst (N := 2) rfl ?_); refine box_event ?hg (N := 2) ?hd (cs := #[.int .u32 0, .int .i64 0]) (t := 31) ?hr ?_; (case hd => rfl); (case hg => rfl); (case hr => first | (go_simp; done) | (go_simp; rfl)); intro gb123 hg w7 hbox hb; have n0_ := Aside0.mk (below_step (by repeat (first | (with_reducible first | exact HB.out | apply below_alloc | apply pw_below_drewN | apply below_drew1) | exact HB.out)) hb); have n1_ := Aside0.mk (hbox); have n2_ := Aside0.mk ((by rw [hg]; exact (below_size (by repeat (first | (with_reducible first | exact HB.out | apply below_alloc | apply pw_below_drewN | apply below_drew1) | exact HB.out))) : w.heap.size ≤ gb123)); have n3_ := Aside0.mk ((by rw [hg]; exact (below_size (by repeat (first | (with_reducible first | exact HB.out | apply below_alloc | apply pw_below_drewN | apply below_drew1) | exact HB.out))) : w.heap.size ≤ gb123)); clear HB; have HB := n0_; have BK123 := n1_; have GW123 := n2_; have GE123 := n3_; clear n0_ n1_ n2_ n3_; clear hb hbox hg) | ((with_reducible refine gate_callee (f := 38) rfl ?_); refine goesL_ (some 14) rfl rfl Tryd.func38 (by kernel_rfl) rfl #[.string a0, .int .i64 0, .int .u8 47] rfl (by (try simp only [List.map_toArray, List.map_cons, List.map_nil]); first | done | rfl | (simp only [List.length_drop, List.length_take]; rfl)) ?_; (with_reducible refine (weftref1_until.calls k a0 0 47 t124 _ A5.out).mono ?_); rintro e w' ⟨rfl, ⟨nd, rfl⟩⟩; refine ⟨_, rfl, ?_⟩; (try (rw [drewN_self w7]; generalize hq_ : World.drewN w7 _ = w7; have n0_ : Aside0 (w7.heap[gb123]? = some (.cells #[.int .u32 0, .int .i64 0] 31 (0, 0))) := ⟨by rw [← hq_]; exact (by (with_reducible repeat (first | refine blk_drewN ?_ _ | refine blk_drew ?_ | refine blk_alloc ?_ _)); exact BK123.out)⟩; have n1_ : Aside0 (Below w.heap.size w w7) := ⟨by rw [← hq_]; exact (by repeat (first | (with_reducible first | exact HB.out | apply below_alloc | apply pw_below_drewN | apply below_drew1 | refine below_set ?_ GE123.out) | exact HB.out))⟩; clear BK123 HB hq_; have BK123 := n0_; have HB := n1_; clear n0_ n1_)); have hcz8_0 : w7.cell? ⟨gb123, 0, none⟩ = some (.int .u32 0) := (blk_cell BK123.out 0).trans rfl; have hcz8_1 : w7.cell? ⟨gb123, 1, none⟩ = some (.int .i64 0) := (blk_cell BK123.out 1).trans rfl; have hfz8_0 := blk_frozen BK123.out 0; have hfz8_1 := blk_frozen BK123.out 1))
      refine bodyPost_ret (results_ct rfl _ _ gb123 31 #[.int .u32 0, .int .i64 0] (0, 0) _ rfl (by (with_reducible repeat (first | refine blk_drewN ?_ _ | refine blk_drew ?_ | refine blk_alloc ?_ _)); refine blk_put (cs := #[.int .u32 0, .int .i64 0]) ?_ 1 _ rfl; (with_reducible repeat (first | refine blk_drewN ?_ _ | refine blk_drew ?_ | refine blk_alloc ?_ _)); refine blk_put (cs := #[.int .u32 0, .int .i64 0]) ?_ 0 _ rfl; (with_reducible repeat (first | refine blk_drewN ?_ _ | refine blk_drew ?_ | refine blk_alloc ?_ _)); exact BK123.out) Tryd.underlying31 rfl (by kernel_rfl)) rfl ?_
      exact ⟨by first | rfl | (simp [errW_none, errW_some] <;> rfl) | (simp [*, errW_none, errW_some] <;> rfl), by repeat (first | (with_reducible first | exact HB.out | apply below_alloc | apply pw_below_drewN | apply below_drew1 | refine below_set ?_ GE123.out) | exact HB.out)⟩
    · rw [if_neg c6] at H
      have c6b0 : (t124 == (a0.size : Int)) = false := beq_eq_false_iff_ne.mpr c6
      have c6b1 : (t124 != (a0.size : Int)) = true := bne_iff_ne.mpr c6
      by_cases c9 : 0 ≤ t124
      · rw [if_pos c9] at H
        have c9b0 := eq_true c9
        have c9b1 : decide (0 ≤ t124) = true := decide_eq_true c9
        clear c9
        by_cases c10 : t124 ≤ (a0.size : Int)
        · rw [if_pos c10] at H
          have c10b0 := eq_true c10
          have c10b1 : decide (t124 ≤ (a0.size : Int)) = true := decide_eq_true c10
          clear c10
          replace H := Option.bind_eq_some_iff.mp H
          obtain ⟨⟨t125, t126⟩, A110, H⟩ := H
          replace H : (if 0 ≤ (wrap64 (t124 + 1)) then (if (wrap64 (t124 + 1)) ≤ (a0.size : Int) then ((weftref1_number.f k (a0.extract ((wrap64 (t124 + 1)) : Int).toNat a0.size) 32).bind fun t127 => (if t126 = 0 then (weftref1_ParsePrefix.j0 k t125 t127 (decide (t127 < 0))) else (weftref1_ParsePrefix.j0 k t125 t127 true))) else (none)) else (none)) = some (r1, r2, r3) := H
          have A11 := Aside0.mk A110
          clear A110
          obtain ⟨ji12, hji12⟩ : ∃ j_ : Int, (wrap64 (t124 + 1)) = j_ := ⟨_, rfl⟩
          replace H : (if 0 ≤ (ji12) then (if (ji12) ≤ (a0.size : Int) then ((weftref1_number.f k (a0.extract ((ji12) : Int).toNat a0.size) 32).bind fun t127 => (if t126 = 0 then (weftref1_ParsePrefix.j0 k t125 t127 (decide (t127 < 0))) else (weftref1_ParsePrefix.j0 k t125 t127 true))) else (none)) else (none)) = some (r1, r2, r3) := by first | (rw [hji12] at H; exact H) | (simp only [hji12] at H ⊢; exact H)
          (try rw [hji12] at A5)
          (try rw [hji12] at A11)
          have hji12w : (IntKind.i64.wrap (t124 + 1)) = ji12 := (i64_w _).trans hji12
          by_cases c13 : 0 ≤ (ji12)
          · rw [if_pos c13] at H
            have c13b0 := eq_true c13
            have c13b1 : decide (0 ≤ (ji12)) = true := decide_eq_true c13
            clear c13
            by_cases c14 : (ji12) ≤ (a0.size : Int)
            · rw [if_pos c14] at H
              have c14b0 := eq_true c14
              have c14b1 : decide ((ji12) ≤ (a0.size : Int)) = true := decide_eq_true c14
              clear c14
              replace H := Option.bind_eq_some_iff.mp H
              obtain ⟨t127, A150, H⟩ := H
              replace H : (if t126 = 0 then (weftref1_ParsePrefix.j0 k t125 t127 (decide (t127 < 0))) else (weftref1_ParsePrefix.j0 k t125 t127 true)) = some (r1, r2, r3) := H
              have A15 := Aside0.mk A150
              clear A150
              have HC16 := Aside0.mk H
              clear H
              go_enter Tryd.func15, Tryd.ntmps15
              go_upto_region 8 with (first | ((with_reducible refine gate_dst (N := 2) rfl ?_); refine box_event ?hg (N := 2) ?hd (cs := #[.int .u32 0, .int .i64 0]) (t := 31) ?hr ?_; (case hd => rfl); (case hg => rfl); (case hr => first | (go_simp; done) | (go_simp; rfl)); intro gb123 hg w17 hbox hb; have n0_ := Aside0.mk (below_step (by repeat (first | (with_reducible first | exact HB.out | apply below_alloc | apply pw_below_drewN | apply below_drew1) | exact HB.out)) hb); have n1_ := Aside0.mk (hbox); have n2_ := Aside0.mk ((by rw [hg]; exact (below_size (by repeat (first | (with_reducible first | exact HB.out | apply below_alloc | apply pw_below_drewN | apply below_drew1) | exact HB.out))) : w.heap.size ≤ gb123)); have n3_ := Aside0.mk ((by rw [hg]; exact (below_size (by repeat (first | (with_reducible first | exact HB.out | apply below_alloc | apply pw_below_drewN | apply below_drew1) | exact HB.out))) : w.heap.size ≤ gb123)); clear HB; have HB := n0_; have BK123 := n1_; have GW123 := n2_; have GE123 := n3_; clear n0_ n1_ n2_ n3_; clear hb hbox hg) | ((with_reducible refine gate_callee (f := 38) rfl ?_); refine goesL_ (some 14) rfl rfl Tryd.func38 (by kernel_rfl) rfl #[.string a0, .int .i64 0, .int .u8 47] rfl (by (try simp only [List.map_toArray, List.map_cons, List.map_nil]); first | done | rfl | (simp only [List.length_drop, List.length_take]; rfl)) ?_; (with_reducible refine (weftref1_until.calls k a0 0 47 t124 _ A5.out).mono ?_); rintro e w' ⟨rfl, ⟨nd, rfl⟩⟩; refine ⟨_, rfl, ?_⟩) | ((with_reducible refine gate_callee (f := 13) rfl ?_); refine goesL_ (some 24) rfl rfl Tryd.func13 (by kernel_rfl) rfl #[.string (a0.extract 0 (t124 : Int).toNat)] rfl (by (try simp only [List.map_toArray, List.map_cons, List.map_nil]); first | done | rfl | (simp only [List.length_drop, List.length_take]; rfl)) ?_; (with_reducible refine (weftref1_Parse.calls k (a0.extract 0 (t124 : Int).toNat) t125 t126 _ (by first | exact HP.out | exact HP.out.on HB.out | exact HP.out.drewN _ | exact (HP.out.on HB.out).drewN _ | (refine HP.out.on ?_; repeat (first | (with_reducible first | exact HB.out | apply below_alloc | apply pw_below_drewN | apply below_drew1) | refine below_set ?_ (Aside0.out (by assumption)) | exact HB.out | exact Below.refl _ _))) A11.out).mono ?_); rintro e w18 ⟨rfl, hb⟩; refine ⟨_, rfl, ?_⟩; have n0_ := Aside0.mk (blk_below (g := gb123) (o := .cells #[.int .u32 0, .int .i64 0] 31 (0, 0)) (by (with_reducible repeat (first | refine blk_drewN ?_ _ | refine blk_drew ?_ | refine blk_alloc ?_ _)); exact BK123.out) hb); have n1_ := Aside0.mk (below_step (by repeat (first | (with_reducible first | exact HB.out | apply below_alloc | apply pw_below_drewN | apply below_drew1 | refine below_set ?_ GE123.out) | exact HB.out)) hb); clear BK123; clear HB; have BK123 := n0_; have HB := n1_; clear n0_ n1_; (try clear hb); (try clear hb2); (try clear hk); (try clear hi)) | ((with_reducible refine gate_callee (f := 39) rfl ?_); refine goesL_ (some 31) rfl rfl Tryd.func39 (by kernel_rfl) rfl #[.string (a0.extract ((ji12) : Int).toNat a0.size), .int .i64 32] rfl (by (try simp only [List.map_toArray, List.map_cons, List.map_nil]); first | done | (simp only [hji12]; rfl) | rfl | (simp only [List.length_drop, List.length_take]; rfl)) ?_; (with_reducible refine (weftref1_number.calls k (a0.extract ((ji12) : Int).toNat a0.size) 32 t127 _ (by first | exact HP.out | exact HP.out.on HB.out | exact HP.out.drewN _ | exact (HP.out.on HB.out).drewN _ | (refine HP.out.on ?_; repeat (first | (with_reducible first | exact HB.out | apply below_alloc | apply pw_below_drewN | apply below_drew1) | refine below_set ?_ (Aside0.out (by assumption)) | exact HB.out | exact Below.refl _ _))) A15.out).mono ?_); rintro e w19 ⟨rfl, hb⟩; refine ⟨_, rfl, ?_⟩; have n0_ := Aside0.mk (blk_below (g := gb123) (o := .cells #[.int .u32 0, .int .i64 0] 31 (0, 0)) (by (with_reducible repeat (first | refine blk_drewN ?_ _ | refine blk_drew ?_ | refine blk_alloc ?_ _)); exact BK123.out) hb); have n1_ := Aside0.mk (below_step (by repeat (first | (with_reducible first | exact HB.out | apply below_alloc | apply pw_below_drewN | apply below_drew1 | refine below_set ?_ GE123.out) | exact HB.out)) hb); clear BK123; clear HB; have BK123 := n0_; have HB := n1_; clear n0_ n1_; (try clear hb); (try clear hb2); (try clear hk); (try clear hi)))
              (try simp only [Act.put, List.setIfInBounds_toArray, List.set_cons_zero, List.set_cons_succ])
              go_cut [37] (fun v37 wc => ∃ (kq : Nat) (x37_15 : Bool), v37 = .bool x37_15 ∧ Aside0 (weftref1_ParsePrefix.j0 kq t125 t127 x37_15 = some (r1, r2, r3)) ∧ Aside0 (kq ≤ k) ∧ Aside0 (wc.heap[gb123]? = some (.cells #[.int .u32 0, .int .i64 0] 31 (0, 0))) ∧ Aside0 (Below w.heap.size w wc))
              case first =>
                have H := HC16.out
                clear HC16
                by_cases c20 : t126 = 0
                · rw [if_pos c20] at H
                  have c20b0 : (t126 == 0) = true := beq_iff_eq.mpr c20
                  have c20b1 : (t126 != 0) = false := bne_eq_false_iff_eq.mpr c20
                  clear c20
                  (first | rw [c20b0] | (simp only [i64_w, i32_w]; rw [c20b0]) | skip)
                  have H' := Aside0.mk H
                  clear H
                  go_wp2
                  go_meet
                  case rel => exact ⟨_, (decide (t127 < 0)), (by first | rfl | (simp; done) | (simp [*]; done)), H', ⟨by first | omega | exact Nat.le_refl _⟩, ⟨by (with_reducible repeat (first | refine blk_drewN ?_ _ | refine blk_drew ?_ | refine blk_alloc ?_ _)); exact BK123.out⟩, ⟨by repeat (first | (with_reducible first | exact HB.out | apply below_alloc | apply pw_below_drewN | apply below_drew1 | refine below_set ?_ GE123.out) | exact HB.out)⟩⟩
                · rw [if_neg c20] at H
                  have c20b0 : (t126 == 0) = false := beq_eq_false_iff_ne.mpr c20
                  have c20b1 : (t126 != 0) = true := bne_iff_ne.mpr c20
                  (first | rw [c20b0] | (simp only [i64_w, i32_w]; rw [c20b0]) | skip)
                  have H' := Aside0.mk H
                  clear H
                  go_wp2
                  go_meet
                  case rel => exact ⟨_, (true), (by first | rfl | (simp; done) | (simp [*]; done)), H', ⟨by first | omega | exact Nat.le_refl _⟩, ⟨by (with_reducible repeat (first | refine blk_drewN ?_ _ | refine blk_drew ?_ | refine blk_alloc ?_ _)); exact BK123.out⟩, ⟨by repeat (first | (with_reducible first | exact HB.out | apply below_alloc | apply pw_below_drewN | apply below_drew1 | refine below_set ?_ GE123.out) | exact HB.out)⟩⟩
              case rest =>
                clear HC16
                try clear c1
                try clear c2
                try clear c2b0
                try clear c2b1
                try clear p2
                try clear c3
                try clear c6
                try clear c6b0
                try clear c6b1
                try clear p6
                try clear c9
                try clear c9b0
                try clear c9b1
                try clear c10
                try clear c10b0
                try clear c10b1
                try clear c13
                try clear c13b0
                try clear c13b1
                try clear c14
                try clear c14b0
                try clear c14b1
                try clear c15
                try clear c20
                try clear c20b0
                try clear c20b1
                try clear hcz4_0
                try clear hcz4_1
                try clear hcz8_0
                try clear hcz8_1
                try clear hfz4_0
                try clear hfz4_1
                try clear hfz8_0
                try clear hfz8_1
                obtain ⟨kq, x37_15, rfl, HA, HJ15, BK123, HB⟩ := hcut
                cases kq with
                | zero => exact absurd HA.out (by simp [weftref1_ParsePrefix.j0])
                | succ kj15 =>
                  have H := HA.out
                  clear HA
                  simp only [weftref1_ParsePrefix.j0] at H
                  by_cases c21 : x37_15 = true
                  · subst c21
                    have H1 : (some (0, 0, 11)) = some (r1, r2, r3) := by rw [if_pos rfl] at H; exact H
                    clear H
                    have H := H1
                    clear H1
                    simp only [Option.some.injEq, Prod.mk.injEq] at H
                    obtain ⟨rfl, rfl, rfl⟩ := H
                    have hcz22_0 : wc.cell? ⟨gb123, 0, none⟩ = some (.int .u32 0) := (blk_cell BK123.out 0).trans rfl
                    have hcz22_1 : wc.cell? ⟨gb123, 1, none⟩ = some (.int .i64 0) := (blk_cell BK123.out 1).trans rfl
                    have hfz22_0 := blk_frozen BK123.out 0
                    have hfz22_1 := blk_frozen BK123.out 1
                    go_wp2
                    refine bodyPost_ret (results_ct rfl _ _ gb123 31 #[.int .u32 0, .int .i64 0] (0, 0) _ rfl (by (with_reducible repeat (first | refine blk_drewN ?_ _ | refine blk_drew ?_ | refine blk_alloc ?_ _)); refine blk_put (cs := #[.int .u32 0, .int .i64 0]) ?_ 1 _ rfl; (with_reducible repeat (first | refine blk_drewN ?_ _ | refine blk_drew ?_ | refine blk_alloc ?_ _)); refine blk_put (cs := #[.int .u32 0, .int .i64 0]) ?_ 0 _ rfl; (with_reducible repeat (first | refine blk_drewN ?_ _ | refine blk_drew ?_ | refine blk_alloc ?_ _)); exact BK123.out) Tryd.underlying31 rfl (by kernel_rfl)) rfl ?_
                    exact ⟨by first | rfl | (simp [errW_none, errW_some] <;> rfl) | (simp only [← hji12]; first | rfl | (simp [errW_none, errW_some] <;> rfl)) | (simp [*, errW_none, errW_some] <;> rfl), by repeat (first | (with_reducible first | exact HB.out | apply below_alloc | apply pw_below_drewN | apply below_drew1 | refine below_set ?_ GE123.out) | exact HB.out)⟩
                  · replace c21 := Bool.eq_false_iff.mpr c21
                    subst c21
                    have H1 : ((weftref1_fault.f kj15 t125 t127).bind fun t129 => (if t129 = 0 then (some (t125, t127, 0)) else (some (0, 0, t129)))) = some (r1, r2, r3) := by rw [if_neg (show ¬ (false = true) by decide)] at H; exact H
                    clear H
                    have H := H1
                    clear H1
                    replace H := Option.bind_eq_some_iff.mp H
                    obtain ⟨t129, A230, H⟩ := H
                    replace H : (if t129 = 0 then (some (t125, t127, 0)) else (some (0, 0, t129))) = some (r1, r2, r3) := H
                    have A23 := Aside0.mk A230
                    clear A230
                    by_cases c24 : t129 = 0
                    · rw [if_pos c24] at H
                      have c24b0 : (t129 == 0) = true := beq_iff_eq.mpr c24
                      have c24b1 : (t129 != 0) = false := bne_eq_false_iff_eq.mpr c24
                      clear c24
                      simp only [Option.some.injEq, Prod.mk.injEq] at H
                      obtain ⟨rfl, rfl, rfl⟩ := H
                      go_wp2_with (first | ((with_reducible refine gate_dst (N := 8) rfl ?_); refine box_event ?hg (N := 8) ?hd (cs := #[.int .u32 0, .int .i64 0]) (t := 31) ?hr ?_; (case hd => rfl); (case hg => rfl); (case hr => first | (go_simp; done) | (go_simp; rfl)); intro gb128 hg w25 hbox hb; have n0_ := Aside0.mk (blk_below (g := gb123) (o := .cells #[.int .u32 0, .int .i64 0] 31 (0, 0)) (by (with_reducible repeat (first | refine blk_drewN ?_ _ | refine blk_drew ?_ | refine blk_alloc ?_ _)); exact BK123.out) hb); have n1_ := Aside0.mk (below_step (by repeat (first | (with_reducible first | exact HB.out | apply below_alloc | apply pw_below_drewN | apply below_drew1 | refine below_set ?_ GE123.out) | exact HB.out)) hb); have n2_ := Aside0.mk (hbox); have n3_ := Aside0.mk ((by rw [hg]; exact (below_size (by repeat (first | (with_reducible first | exact HB.out | apply below_alloc | apply pw_below_drewN | apply below_drew1 | refine below_set ?_ GE123.out) | exact HB.out))) : w.heap.size ≤ gb128)); have n4_ := Aside0.mk ((by rw [hg]; exact (below_size (by repeat (first | (with_reducible first | exact HB.out | apply below_alloc | apply pw_below_drewN | apply below_drew1 | refine below_set ?_ GE123.out) | exact HB.out))) : w.heap.size ≤ gb128)); have n5_ := Aside0.mk ((by rw [hg]; exact Nat.ne_of_lt (blk_lt (g := gb123) (o := .cells #[.int .u32 0, .int .i64 0] 31 (0, 0)) (by (with_reducible repeat (first | refine blk_drewN ?_ _ | refine blk_drew ?_ | refine blk_alloc ?_ _)); exact BK123.out)) : gb123 ≠ gb128)); have n6_ := Aside0.mk ((by rw [hg]; exact Nat.ne_of_gt (blk_lt (g := gb123) (o := .cells #[.int .u32 0, .int .i64 0] 31 (0, 0)) (by (with_reducible repeat (first | refine blk_drewN ?_ _ | refine blk_drew ?_ | refine blk_alloc ?_ _)); exact BK123.out)) : gb128 ≠ gb123)); clear BK123; clear HB; have BK123 := n0_; have HB := n1_; have BK128 := n2_; have GW128 := n3_; have GE128 := n4_; have NB123_128 := n5_; have NB128_123 := n6_; clear n0_ n1_ n2_ n3_ n4_ n5_ n6_; clear hb hbox hg; have hnb26 := NB128_123.out; have hnc26 := NB123_128.out; have hcz27_0 : w25.cell? ⟨gb128, 0, none⟩ = some (.int .u32 0) := (blk_cell BK128.out 0).trans rfl; have hcz27_1 : w25.cell? ⟨gb128, 1, none⟩ = some (.int .i64 0) := (blk_cell BK128.out 1).trans rfl; have hfz27_0 := blk_frozen BK128.out 0; have hfz27_1 := blk_frozen BK128.out 1) | ((with_reducible refine gate_callee (f := 40) rfl ?_); refine goesL_ (some 43) rfl rfl Tryd.func40 (by kernel_rfl) rfl #[.agg #[.int .u32 t125, .int .i64 t127]] rfl (by (try simp only [List.map_toArray, List.map_cons, List.map_nil]); first | done | rfl | (simp only [List.length_drop, List.length_take]; rfl)) ?_; (with_reducible refine (weftref1_fault.calls kj15 t125 t127 t129 _ A23.out).mono ?_); rintro e w28 ⟨rfl, hb⟩; refine ⟨_, rfl, ?_⟩; have n0_ := Aside0.mk (blk_below (g := gb123) (o := .cells #[.int .u32 0, .int .i64 0] 31 (0, 0)) (by (with_reducible repeat (first | refine blk_drewN ?_ _ | refine blk_drew ?_ | refine blk_alloc ?_ _)); refine blk_far ?_ NB123_128.out _; (with_reducible repeat (first | refine blk_drewN ?_ _ | refine blk_drew ?_ | refine blk_alloc ?_ _)); refine blk_far ?_ NB123_128.out _; (with_reducible repeat (first | refine blk_drewN ?_ _ | refine blk_drew ?_ | refine blk_alloc ?_ _)); exact BK123.out) hb); have n1_ := Aside0.mk (blk_below (g := gb128) (o := .cells #[.int .u32 t125, .int .i64 t127] 31 (0, 0)) (by (with_reducible repeat (first | refine blk_drewN ?_ _ | refine blk_drew ?_ | refine blk_alloc ?_ _)); refine blk_put (cs := #[.int .u32 t125, .int .i64 0]) ?_ 1 _ rfl; (with_reducible repeat (first | refine blk_drewN ?_ _ | refine blk_drew ?_ | refine blk_alloc ?_ _)); refine blk_put (cs := #[.int .u32 0, .int .i64 0]) ?_ 0 _ rfl; (with_reducible repeat (first | refine blk_drewN ?_ _ | refine blk_drew ?_ | refine blk_alloc ?_ _)); exact BK128.out) hb); have n2_ := Aside0.mk (below_step (by repeat (first | (with_reducible first | exact HB.out | apply below_alloc | apply pw_below_drewN | apply below_drew1 | refine below_set ?_ GE123.out | refine below_set ?_ GE128.out) | exact HB.out)) hb); clear BK123; clear BK128; clear HB; have BK123 := n0_; have BK128 := n1_; have HB := n2_; clear n0_ n1_ n2_; (try clear hb); (try clear hb2); (try clear hk); (try clear hi); have hcz29_0 : w28.cell? ⟨gb128, 0, none⟩ = some (.int .u32 t125) := (blk_cell BK128.out 0).trans rfl; have hcz29_1 : w28.cell? ⟨gb128, 1, none⟩ = some (.int .i64 t127) := (blk_cell BK128.out 1).trans rfl; have hfz29_0 := blk_frozen BK128.out 0; have hfz29_1 := blk_frozen BK128.out 1; have hcz30_0 : w28.cell? ⟨gb123, 0, none⟩ = some (.int .u32 0) := (blk_cell BK123.out 0).trans rfl; have hcz30_1 : w28.cell? ⟨gb123, 1, none⟩ = some (.int .i64 0) := (blk_cell BK123.out 1).trans rfl; have hfz30_0 := blk_frozen BK123.out 0; have hfz30_1 := blk_frozen BK123.out 1))
                      refine bodyPost_ret (results_ct rfl _ _ gb123 31 #[.int .u32 t125, .int .i64 t127] (0, 0) _ rfl (by (with_reducible repeat (first | refine blk_drewN ?_ _ | refine blk_drew ?_ | refine blk_alloc ?_ _)); refine blk_put (cs := #[.int .u32 t125, .int .i64 0]) ?_ 1 _ rfl; (with_reducible repeat (first | refine blk_drewN ?_ _ | refine blk_drew ?_ | refine blk_alloc ?_ _)); refine blk_put (cs := #[.int .u32 0, .int .i64 0]) ?_ 0 _ rfl; (with_reducible repeat (first | refine blk_drewN ?_ _ | refine blk_drew ?_ | refine blk_alloc ?_ _)); exact BK123.out) Tryd.underlying31 rfl (by kernel_rfl)) rfl ?_
                      exact ⟨by first | rfl | (simp [errW_none, errW_some] <;> rfl) | (simp only [← hji12]; first | rfl | (simp [errW_none, errW_some] <;> rfl)) | (simp [*, errW_none, errW_some] <;> rfl), by repeat (first | (with_reducible first | exact HB.out | apply below_alloc | apply pw_below_drewN | apply below_drew1 | refine below_set ?_ GE123.out | refine below_set ?_ GE128.out) | exact HB.out)⟩
                    · rw [if_neg c24] at H
                      have c24b0 : (t129 == 0) = false := beq_eq_false_iff_ne.mpr c24
                      have c24b1 : (t129 != 0) = true := bne_iff_ne.mpr c24
                      simp only [Option.some.injEq, Prod.mk.injEq] at H
                      obtain ⟨rfl, rfl, rfl⟩ := H
                      go_wp2_with (first | ((with_reducible refine gate_dst (N := 8) rfl ?_); refine box_event ?hg (N := 8) ?hd (cs := #[.int .u32 0, .int .i64 0]) (t := 31) ?hr ?_; (case hd => rfl); (case hg => rfl); (case hr => first | (go_simp; done) | (go_simp; rfl)); intro gb128 hg w31 hbox hb; have n0_ := Aside0.mk (blk_below (g := gb123) (o := .cells #[.int .u32 0, .int .i64 0] 31 (0, 0)) (by (with_reducible repeat (first | refine blk_drewN ?_ _ | refine blk_drew ?_ | refine blk_alloc ?_ _)); exact BK123.out) hb); have n1_ := Aside0.mk (below_step (by repeat (first | (with_reducible first | exact HB.out | apply below_alloc | apply pw_below_drewN | apply below_drew1 | refine below_set ?_ GE123.out) | exact HB.out)) hb); have n2_ := Aside0.mk (hbox); have n3_ := Aside0.mk ((by rw [hg]; exact (below_size (by repeat (first | (with_reducible first | exact HB.out | apply below_alloc | apply pw_below_drewN | apply below_drew1 | refine below_set ?_ GE123.out) | exact HB.out))) : w.heap.size ≤ gb128)); have n4_ := Aside0.mk ((by rw [hg]; exact (below_size (by repeat (first | (with_reducible first | exact HB.out | apply below_alloc | apply pw_below_drewN | apply below_drew1 | refine below_set ?_ GE123.out) | exact HB.out))) : w.heap.size ≤ gb128)); have n5_ := Aside0.mk ((by rw [hg]; exact Nat.ne_of_lt (blk_lt (g := gb123) (o := .cells #[.int .u32 0, .int .i64 0] 31 (0, 0)) (by (with_reducible repeat (first | refine blk_drewN ?_ _ | refine blk_drew ?_ | refine blk_alloc ?_ _)); exact BK123.out)) : gb123 ≠ gb128)); have n6_ := Aside0.mk ((by rw [hg]; exact Nat.ne_of_gt (blk_lt (g := gb123) (o := .cells #[.int .u32 0, .int .i64 0] 31 (0, 0)) (by (with_reducible repeat (first | refine blk_drewN ?_ _ | refine blk_drew ?_ | refine blk_alloc ?_ _)); exact BK123.out)) : gb128 ≠ gb123)); clear BK123; clear HB; have BK123 := n0_; have HB := n1_; have BK128 := n2_; have GW128 := n3_; have GE128 := n4_; have NB123_128 := n5_; have NB128_123 := n6_; clear n0_ n1_ n2_ n3_ n4_ n5_ n6_; clear hb hbox hg; have hnb32 := NB128_123.out; have hnc32 := NB123_128.out; have hcz33_0 : w31.cell? ⟨gb128, 0, none⟩ = some (.int .u32 0) := (blk_cell BK128.out 0).trans rfl; have hcz33_1 : w31.cell? ⟨gb128, 1, none⟩ = some (.int .i64 0) := (blk_cell BK128.out 1).trans rfl; have hfz33_0 := blk_frozen BK128.out 0; have hfz33_1 := blk_frozen BK128.out 1) | ((with_reducible refine gate_callee (f := 40) rfl ?_); refine goesL_ (some 43) rfl rfl Tryd.func40 (by kernel_rfl) rfl #[.agg #[.int .u32 t125, .int .i64 t127]] rfl (by (try simp only [List.map_toArray, List.map_cons, List.map_nil]); first | done | rfl | (simp only [List.length_drop, List.length_take]; rfl)) ?_; (with_reducible refine (weftref1_fault.calls kj15 t125 t127 t129 _ A23.out).mono ?_); rintro e w34 ⟨rfl, hb⟩; refine ⟨_, rfl, ?_⟩; have n0_ := Aside0.mk (blk_below (g := gb123) (o := .cells #[.int .u32 0, .int .i64 0] 31 (0, 0)) (by (with_reducible repeat (first | refine blk_drewN ?_ _ | refine blk_drew ?_ | refine blk_alloc ?_ _)); refine blk_far ?_ NB123_128.out _; (with_reducible repeat (first | refine blk_drewN ?_ _ | refine blk_drew ?_ | refine blk_alloc ?_ _)); refine blk_far ?_ NB123_128.out _; (with_reducible repeat (first | refine blk_drewN ?_ _ | refine blk_drew ?_ | refine blk_alloc ?_ _)); exact BK123.out) hb); have n1_ := Aside0.mk (blk_below (g := gb128) (o := .cells #[.int .u32 t125, .int .i64 t127] 31 (0, 0)) (by (with_reducible repeat (first | refine blk_drewN ?_ _ | refine blk_drew ?_ | refine blk_alloc ?_ _)); refine blk_put (cs := #[.int .u32 t125, .int .i64 0]) ?_ 1 _ rfl; (with_reducible repeat (first | refine blk_drewN ?_ _ | refine blk_drew ?_ | refine blk_alloc ?_ _)); refine blk_put (cs := #[.int .u32 0, .int .i64 0]) ?_ 0 _ rfl; (with_reducible repeat (first | refine blk_drewN ?_ _ | refine blk_drew ?_ | refine blk_alloc ?_ _)); exact BK128.out) hb); have n2_ := Aside0.mk (below_step (by repeat (first | (with_reducible first | exact HB.out | apply below_alloc | apply pw_below_drewN | apply below_drew1 | refine below_set ?_ GE123.out | refine below_set ?_ GE128.out) | exact HB.out)) hb); clear BK123; clear BK128; clear HB; have BK123 := n0_; have BK128 := n1_; have HB := n2_; clear n0_ n1_ n2_; (try clear hb); (try clear hb2); (try clear hk); (try clear hi); have hcz35_0 : w34.cell? ⟨gb123, 0, none⟩ = some (.int .u32 0) := (blk_cell BK123.out 0).trans rfl; have hcz35_1 : w34.cell? ⟨gb123, 1, none⟩ = some (.int .i64 0) := (blk_cell BK123.out 1).trans rfl; have hfz35_0 := blk_frozen BK123.out 0; have hfz35_1 := blk_frozen BK123.out 1))
                      refine bodyPost_ret (results_ct rfl _ _ gb123 31 #[.int .u32 0, .int .i64 0] (0, 0) _ rfl (by (with_reducible repeat (first | refine blk_drewN ?_ _ | refine blk_drew ?_ | refine blk_alloc ?_ _)); refine blk_put (cs := #[.int .u32 0, .int .i64 0]) ?_ 1 _ rfl; (with_reducible repeat (first | refine blk_drewN ?_ _ | refine blk_drew ?_ | refine blk_alloc ?_ _)); refine blk_put (cs := #[.int .u32 0, .int .i64 0]) ?_ 0 _ rfl; (with_reducible repeat (first | refine blk_drewN ?_ _ | refine blk_drew ?_ | refine blk_alloc ?_ _)); exact BK123.out) Tryd.underlying31 rfl (by kernel_rfl)) rfl ?_
                      exact ⟨by first | rfl | (simp [errW_none, errW_some] <;> rfl) | (simp only [← hji12]; first | rfl | (simp [errW_none, errW_some] <;> rfl)) | (simp [*, errW_none, errW_some] <;> rfl), by repeat (first | (with_reducible first | exact HB.out | apply below_alloc | apply pw_below_drewN | apply below_drew1 | refine below_set ?_ GE123.out | refine below_set ?_ GE128.out) | exact HB.out)⟩
            · rw [if_neg c14] at H
              exact absurd H (by simp)
          · rw [if_neg c13] at H
            exact absurd H (by simp)
        · rw [if_neg c10] at H
          exact absurd H (by simp)
      · rw [if_neg c9] at H
        exact absurd H (by simp)

/-! ### addr_hex: function 41 -/
mutual
def addr_hex.j0 : Nat → Int → Bool → Option (Int)
  | 0, _, _ => none
  | k + 1, x0, x3 => if x3 = true then (some ((x0 - 48) % 256)) else (if x0 ≥ 97 then (addr_hex.j1 k x0 (decide (x0 ≤ 102))) else (addr_hex.j1 k x0 false))
def addr_hex.j1 : Nat → Int → Bool → Option (Int)
  | 0, _, _ => none
  | k + 1, x0, x13 => if x13 = true then (some (((x0 - 97) % 256) + 10)) else (if x0 ≥ 65 then (if x0 ≤ 70 then (some (((x0 - 65) % 256) + 10)) else (some (-1))) else (some (-1)))
end
def addr_hex.f (k : Nat) (a0 : Int) : Option (Int) := if a0 ≥ 48 then (addr_hex.j0 k a0 (decide (a0 ≤ 57))) else (addr_hex.j0 k a0 false)
theorem addr_hex.mono_l : ∀ k, (∀ y0 y1, LeO (addr_hex.j0 k y0 y1) (addr_hex.j0 (k + 1) y0 y1)) ∧ (∀ y0 y1, LeO (addr_hex.j1 k y0 y1) (addr_hex.j1 (k + 1) y0 y1))
  | 0 => ⟨fun _ _ r h => by simp [addr_hex.j0] at h, fun _ _ r h => by simp [addr_hex.j1] at h⟩
  | k + 1 => by
    obtain ⟨ih0, ih1⟩ := addr_hex.mono_l k
    refine ⟨?_, ?_⟩
    · intro y0 y1
      unfold addr_hex.j0
      repeat' first
      | (with_reducible exact ih0 _ _)
      | (with_reducible exact ih1 _ _)
      | (with_reducible exact LeO.refl _)
      | (with_reducible exact LeO.none _)
      | (with_reducible refine LeO.ite ?_ ?_)
      | (with_reducible refine LeO.bind ?_ (fun _ => ?_))
      | exact ih0 _ _
      | exact ih1 _ _
      | exact LeO.none _
      | refine LeO.ite ?_ ?_
      | refine LeO.bind ?_ (fun _ => ?_)
    · intro y0 y1
      unfold addr_hex.j1
      repeat' first
      | (with_reducible exact ih0 _ _)
      | (with_reducible exact ih1 _ _)
      | (with_reducible exact LeO.refl _)
      | (with_reducible exact LeO.none _)
      | (with_reducible refine LeO.ite ?_ ?_)
      | (with_reducible refine LeO.bind ?_ (fun _ => ?_))
      | exact ih0 _ _
      | exact ih1 _ _
      | exact LeO.none _
      | refine LeO.ite ?_ ?_
      | refine LeO.bind ?_ (fun _ => ?_)
theorem addr_hex.mono : ∀ a0 k, LeO (addr_hex.f k a0) (addr_hex.f (k + 1) a0) := by
  intro a0 k
  obtain ⟨ih0, ih1⟩ := addr_hex.mono_l k
  unfold addr_hex.f
  repeat' first
      | (with_reducible exact ih0 _ _)
      | (with_reducible exact ih1 _ _)
      | (with_reducible exact LeO.refl _)
      | (with_reducible exact LeO.none _)
      | (with_reducible refine LeO.ite ?_ ?_)
      | (with_reducible refine LeO.bind ?_ (fun _ => ?_))
      | exact ih0 _ _
      | exact ih1 _ _
      | exact LeO.none _
      | refine LeO.ite ?_ ?_
      | refine LeO.bind ?_ (fun _ => ?_)
set_option maxHeartbeats 8000000 in
set_option maxRecDepth 100000 in
theorem addr_hex.calls (k : Nat) (a0 : Int) (r : Int) (w : World) (h : addr_hex.f k a0 = some r) :
    Calls Tryd.prog 41 #[.int .u8 a0] w fun e w' => e = .returned (.int .i64 r) ∧ Drawn0 w w' := by
  have H : (if a0 ≥ 48 then (addr_hex.j0 k a0 (decide (a0 ≤ 57))) else (addr_hex.j0 k a0 false)) = some r := h
  clear h
  have HC2 := Aside0.mk H
  clear H
  go_enter Tryd.func41, Tryd.ntmps41
  go_upto_region 1 with (fail)
  go_cut [3] (fun v3 wc => ∃ (kq : Nat) (x3_1 : Bool), v3 = .bool x3_1 ∧ Aside0 (addr_hex.j0 kq a0 x3_1 = some r) ∧ Aside0 (kq ≤ k) ∧ Drawn0 w wc)
  case first =>
    have H := HC2.out
    clear HC2
    by_cases c3 : a0 ≥ 48
    · rw [if_pos c3] at H
      have c3b0 : decide (48 ≤ a0) = true := decide_eq_true c3
      clear c3
      (first | rw [c3b0] | (simp only [i64_w, i32_w]; rw [c3b0]) | skip)
      have H' := Aside0.mk H
      clear H
      go_wp2
      go_meet
      case rel => exact ⟨_, (decide (a0 ≤ 57)), (by first | rfl | (simp; done) | (simp [*]; done)), H', ⟨by first | omega | exact Nat.le_refl _⟩, by repeat (first | exact Drawn0.refl _ | apply Drawn0.step)⟩
    · rw [if_neg c3] at H
      have c3b0 : decide (48 ≤ a0) = false := decide_eq_false c3
      clear c3
      (first | rw [c3b0] | (simp only [i64_w, i32_w]; rw [c3b0]) | skip)
      have H' := Aside0.mk H
      clear H
      go_wp2
      go_meet
      case rel => exact ⟨_, (false), (by first | rfl | (simp; done) | (simp [*]; done)), H', ⟨by first | omega | exact Nat.le_refl _⟩, by repeat (first | exact Drawn0.refl _ | apply Drawn0.step)⟩
  case rest =>
    clear HC2
    try clear p2
    try clear c3
    try clear c3b0
    obtain ⟨kq, x3_1, rfl, HA, HJ1, ⟨mc1, rfl⟩⟩ := hcut
    cases kq with
    | zero => exact absurd HA.out (by simp [addr_hex.j0])
    | succ kj1 =>
      have H := HA.out
      clear HA
      simp only [addr_hex.j0] at H
      by_cases c4 : x3_1 = true
      · subst c4
        have H1 : (some ((a0 - 48) % 256)) = some r := by rw [if_pos rfl] at H; exact H
        clear H
        have H := H1
        clear H1
        obtain rfl := Option.some.inj H
        go_wp2
        go_ret
        exact ⟨by first | rfl | (simp; done) | (simp [*]; done), by repeat (first | exact Drawn0.refl _ | apply Drawn0.step)⟩
      · replace c4 := Bool.eq_false_iff.mpr c4
        subst c4
        have H1 : (if a0 ≥ 97 then (addr_hex.j1 kj1 a0 (decide (a0 ≤ 102))) else (addr_hex.j1 kj1 a0 false)) = some r := by rw [if_neg (show ¬ (false = true) by decide)] at H; exact H
        clear H
        have H := H1
        clear H1
        have HC5 := Aside0.mk H
        clear H
        go_upto_region 3 with (fail)
        go_cut [13] (fun v13 wc => ∃ (kq : Nat) (x13_4 : Bool), v13 = .bool x13_4 ∧ Aside0 (addr_hex.j1 kq a0 x13_4 = some r) ∧ Aside0 (kq ≤ kj1) ∧ Drawn0 w wc)
        case first =>
          have H := HC5.out
          clear HC5
          by_cases c6 : a0 ≥ 97
          · rw [if_pos c6] at H
            have c6b0 : decide (97 ≤ a0) = true := decide_eq_true c6
            clear c6
            (first | rw [c6b0] | (simp only [i64_w, i32_w]; rw [c6b0]) | skip)
            have H' := Aside0.mk H
            clear H
            go_wp2
            go_meet
            case rel => exact ⟨_, (decide (a0 ≤ 102)), (by first | rfl | (simp; done) | (simp [*]; done)), H', ⟨by have := HJ1.out; first | omega | exact Nat.le_refl _⟩, by repeat (first | exact Drawn0.refl _ | apply Drawn0.step)⟩
          · rw [if_neg c6] at H
            have c6b0 : decide (97 ≤ a0) = false := decide_eq_false c6
            clear c6
            (first | rw [c6b0] | (simp only [i64_w, i32_w]; rw [c6b0]) | skip)
            have H' := Aside0.mk H
            clear H
            go_wp2
            go_meet
            case rel => exact ⟨_, (false), (by first | rfl | (simp; done) | (simp [*]; done)), H', ⟨by have := HJ1.out; first | omega | exact Nat.le_refl _⟩, by repeat (first | exact Drawn0.refl _ | apply Drawn0.step)⟩
        case rest =>
          clear HC5
          try clear c1
          try clear p2
          try clear c3
          try clear c3b0
          try clear c4
          try clear c6
          try clear c6b0
          try clear p2
          obtain ⟨kq, x13_4, rfl, HA, HJ4, ⟨mc4, rfl⟩⟩ := hcut
          cases kq with
          | zero => exact absurd HA.out (by simp [addr_hex.j1])
          | succ kj4 =>
            have H := HA.out
            clear HA
            simp only [addr_hex.j1] at H
            by_cases c7 : x13_4 = true
            · subst c7
              have H1 : (some (((a0 - 97) % 256) + 10)) = some r := by rw [if_pos rfl] at H; exact H
              clear H
              have H := H1
              clear H1
              obtain rfl := Option.some.inj H
              go_wp2
              go_ret
              exact ⟨by first | rfl | (simp; done) | (simp [*]; done), by repeat (first | exact Drawn0.refl _ | apply Drawn0.step)⟩
            · replace c7 := Bool.eq_false_iff.mpr c7
              subst c7
              have H1 : (if a0 ≥ 65 then (if a0 ≤ 70 then (some (((a0 - 65) % 256) + 10)) else (some (-1))) else (some (-1))) = some r := by rw [if_neg (show ¬ (false = true) by decide)] at H; exact H
              clear H
              have H := H1
              clear H1
              by_cases c8 : a0 ≥ 65
              · rw [if_pos c8] at H
                have c8b0 : decide (65 ≤ a0) = true := decide_eq_true c8
                clear c8
                by_cases c9 : a0 ≤ 70
                · rw [if_pos c9] at H
                  have c9b0 : decide (a0 ≤ 70) = true := decide_eq_true c9
                  clear c9
                  obtain rfl := Option.some.inj H
                  go_wp2
                  go_ret
                  exact ⟨by first | rfl | (simp; done) | (simp [*]; done), by repeat (first | exact Drawn0.refl _ | apply Drawn0.step)⟩
                · rw [if_neg c9] at H
                  have c9b0 : decide (a0 ≤ 70) = false := decide_eq_false c9
                  clear c9
                  obtain rfl := Option.some.inj H
                  go_wp2
                  go_ret
                  exact ⟨by first | rfl | (simp; done) | (simp [*]; done), by repeat (first | exact Drawn0.refl _ | apply Drawn0.step)⟩
              · rw [if_neg c8] at H
                have c8b0 : decide (65 ≤ a0) = false := decide_eq_false c8
                clear c8
                obtain rfl := Option.some.inj H
                go_wp2
                go_ret
                exact ⟨by first | rfl | (simp; done) | (simp [*]; done), by repeat (first | exact Drawn0.refl _ | apply Drawn0.step)⟩

/-! ### addr_ParseMAC: function 16 -/
-- calls=weft/addr.hex
/-- what a hexadecimal digit is worth -/
def hexD (c : Int) : Int := if 48 ≤ c ∧ c ≤ 57 then c - 48 else if 97 ≤ c ∧ c ≤ 102 then c - 97 + 10 else if 65 ≤ c ∧ c ≤ 70 then c - 65 + 10 else -1
theorem hexD_range (c : Int) : -1 ≤ hexD c ∧ hexD c ≤ 15 := by
  unfold hexD
  repeat' split
  all_goals omega
theorem hex_f0 : ∀ n : Nat, n < 256 → addr_hex.f 3 (n : Int) = some (hexD n) := by decide +kernel
theorem hex_f (c : Int) (h0 : 0 ≤ c) (h1 : c ≤ 255) : addr_hex.f 3 c = some (hexD c) := by
  obtain ⟨n, rfl⟩ := Int.eq_ofNat_of_zero_le h0
  exact hex_f0 n (by omega)
theorem hex_calls (c : Int) (w : World) (h0 : 0 ≤ c) (h1 : c ≤ 255) : Calls Tryd.prog 41 #[.int .u8 c] w fun e w' => e = .returned (.int .i64 (hexD c)) ∧ ∃ m, w' = w.drewN m :=
  (addr_hex.calls 3 c _ w (hex_f c h0 h1)).mono fun _ _ ⟨he, hd⟩ => ⟨he, hd.out⟩
def pok (s : ByteArray) (j : Nat) : Prop := 0 ≤ hexD (bt s (3 * j)) ∧ 0 ≤ hexD (bt s (3 * j + 1)) ∧ (j < 5 → bt s (3 * j + 2) = 58)
instance (s : ByteArray) (j : Nat) : Decidable (pok s j) := inferInstanceAs (Decidable (_ ∧ _))
def pv (s : ByteArray) (j : Nat) : Int := (Go.bits .or .i64 (hexD (bt s (3 * j)) * 16) (hexD (bt s (3 * j + 1)))) % 256
def MacGot (s : ByteArray) (i : Nat) (cs : Array Value) : Prop := cs.size = 6 ∧ (∀ j, j < i → cs[j]? = some (.int .u8 (pv s j))) ∧ ∀ j, j < i → pok s j
def macAll (s : ByteArray) : Bool := (List.range 6).all fun j => decide (pok s j)
def macRes (s : ByteArray) : Value := if macAll s = true then .tuple #[.agg #[.int .u8 (pv s 0), .int .u8 (pv s 1), .int .u8 (pv s 2), .int .u8 (pv s 3), .int .u8 (pv s 4), .int .u8 (pv s 5)], .int .i64 0] else .tuple #[.agg #[.int .u8 0, .int .u8 0, .int .u8 0, .int .u8 0, .int .u8 0, .int .u8 0], .int .i64 13]
theorem macStep {s : ByteArray} {w wr : World} {i n : Nat} {cs : Array Value} {zs : Array Value} (hi : i < 6) (h0 : wr.heap[w.heap.size]? = some (.cells zs 33 (0, 0))) (h1 : wr.heap[w.heap.size + 1]? = some (.cells cs 33 (0, 0))) (hr : MacGot s i cs) (hk : pok s i) (hb : Below w.heap.size w wr) :
    ∃ (j : Nat) (cs' : Array Value), Value.int .i64 ((i : Int) + 1) = .int .i64 j ∧ j ≤ 6 ∧
      ((wr.drewN n).setCell ⟨w.heap.size + 1, i, none⟩ (.int .u8 (Go.bits .or .i64 (hexD (bt s (3 * i)) * 16) (hexD (bt s (3 * i + 1))) % 256))).heap[w.heap.size]? = some (.cells zs 33 (0, 0)) ∧
      ((wr.drewN n).setCell ⟨w.heap.size + 1, i, none⟩ (.int .u8 (Go.bits .or .i64 (hexD (bt s (3 * i)) * 16) (hexD (bt s (3 * i + 1))) % 256))).heap[w.heap.size + 1]? = some (.cells cs' 33 (0, 0)) ∧
      Aside0 (MacGot s j cs') ∧ Aside0 (Below w.heap.size w ((wr.drewN n).setCell ⟨w.heap.size + 1, i, none⟩ (.int .u8 (Go.bits .or .i64 (hexD (bt s (3 * i)) * 16) (hexD (bt s (3 * i + 1))) % 256)))) := by
  refine ⟨i + 1, cs.setIfInBounds i (.int .u8 (pv s i)), by simp, by omega, blk_far (blk_drewN h0 n) (by simp) _, blk_set (blk_drewN h1 n) _ _, ⟨by simp [hr.1], fun j hj => ?_, fun j hj => ?_⟩, ⟨below_set (pw_below_drewN hb n) (by simp)⟩⟩
  · rw [Array.getElem?_setIfInBounds]
    by_cases e : i = j
    · rw [if_pos e, if_pos (by have := hr.1; omega), e]
    · rw [if_neg e]; exact hr.2.1 j (by omega)
  · by_cases e : j = i
    · rw [e]; exact hk
    · exact hr.2.2 j (by omega)
theorem macRes_bad {s : ByteArray} {i : Nat} (hi : i < 6) (h : ¬ pok s i) : macRes s = .tuple #[.agg #[.int .u8 0, .int .u8 0, .int .u8 0, .int .u8 0, .int .u8 0, .int .u8 0], .int .i64 13] := by
  unfold macRes
  rw [if_neg]
  intro ha
  have := List.all_eq_true.1 ha i (by simpa using hi)
  exact h (by simpa using this)
theorem macRes_ok {s : ByteArray} (h : ∀ j, j < 6 → pok s j) : macRes s = .tuple #[.agg #[.int .u8 (pv s 0), .int .u8 (pv s 1), .int .u8 (pv s 2), .int .u8 (pv s 3), .int .u8 (pv s 4), .int .u8 (pv s 5)], .int .i64 0] := by
  unfold macRes
  rw [if_pos]
  refine List.all_eq_true.2 fun j hj => ?_
  simpa using h j (by simpa using hj)
set_option maxHeartbeats 4000000 in
set_option maxRecDepth 100000 in
theorem parseMAC_walk (s : ByteArray) (w : World) (hs : s.size = 17) :
    Calls Tryd.prog 16 #[.string s] w fun e w' => e = .returned (macRes s) ∧ Below w.heap.size w w' := by
  have HS := Aside0.mk hs
  have hs1 : ((s.size : Int) == 17) = true := by simp [hs]
  have hs2 : ((s.size : Int) != 17) = false := by simp [hs]
  clear hs
  go_enter Tryd.func16, Tryd.ntmps16
  go_wp2
  clear hs1 hs2
  go_loopw [12] (fun v12 wr => ∃ (i : Nat) (cs : Array Value), v12 = .int .i64 i ∧ i ≤ 6 ∧ wr.heap[w.heap.size]? = some (.cells #[.int .u8 0, .int .u8 0, .int .u8 0, .int .u8 0, .int .u8 0, .int .u8 0] 33 (0, 0)) ∧
      wr.heap[w.heap.size + 1]? = some (.cells cs 33 (0, 0)) ∧ Aside0 (MacGot s i cs) ∧ Aside0 (Below w.heap.size w wr)) (fun v12 _ => 6 - (intOf v12).toNat)
  case atStart =>
    refine ⟨0, #[.int .u8 0, .int .u8 0, .int .u8 0, .int .u8 0, .int .u8 0, .int .u8 0], rfl, by omega, ?_, ?_, ⟨by rfl, fun j h => by omega, fun j h => by omega⟩, ⟨((Below.refl _ _).alloc (Nat.le_refl _) _).alloc (by simp) _⟩⟩
    · exact blk_alloc (blk_new _ _) _
    · exact blk_new2 _ _ _
  case round =>
    obtain ⟨i, cs, rfl, hi, hb0, hb1, HR, HB⟩ := hrel
    by_cases hlt : i < 6
    · have hsz := HS.out
      have b0 := bt_at s (3 * (i : Int))
      have b1 := bt_at s (3 * (i : Int) + 1)
      have b2 := bt_at s (3 * (i : Int) + 2)
      have r0 := bt_range s (3 * (i : Int))
      have r1 := bt_range s (3 * (i : Int) + 1)
      have l0 : 3 * i < s.size := by omega
      have l1 : 3 * i + 1 < s.size := by omega
      have HB0 := Aside0.mk hb0
      have HB1 := Aside0.mk hb1
      clear hb0 hb1 hsz
      go_wp2
      go_quiet ((go_at_call 41; exact Calls.quiet_of (hex_calls _ _ (by omega) (by omega))))
      have g0 := hexD_range (bt s (3 * (i : Int)))
      have g1 := hexD_range (bt s (3 * (i : Int) + 1))
      have l2 : i < 5 → 3 * i + 2 < s.size := by have := HS.out; omega
      by_cases hok : pok s i
      · obtain ⟨k0, k1, k2⟩ := hok
        obtain ⟨ci, fi⟩ := cell_blk (j := i) HB1.out (by have := HR.out.1; omega)
        have HK := Aside0.mk (show pok s i from ⟨k0, k1, k2⟩)
        by_cases h5 : i < 5
        · have l2' := l2 h5
          have k2' : (bt s (3 * (i : Int) + 2) != 58) = false := by simp [k2 h5]
          have k2e : (bt s (3 * (i : Int) + 2) == 58) = true := by simp [k2 h5]
          clear l2 k2
          go_wp2
          go_roundw
          case rel => exact macStep (n := nq) hlt HB0.out HB1.out HR.out HK.out HB.out
          case measure => simp [intOf]; omega
        · clear l2 k2
          go_wp2
          go_roundw
          case rel => exact macStep (n := nq) hlt HB0.out HB1.out HR.out HK.out HB.out
          case measure => simp [intOf]; omega
      · obtain ⟨z0, y0⟩ := cell_blk (j := 0) HB0.out (by decide)
        obtain ⟨z1, y1⟩ := cell_blk (j := 1) HB0.out (by decide)
        obtain ⟨z2, y2⟩ := cell_blk (j := 2) HB0.out (by decide)
        obtain ⟨z3, y3⟩ := cell_blk (j := 3) HB0.out (by decide)
        obtain ⟨z4, y4⟩ := cell_blk (j := 4) HB0.out (by decide)
        obtain ⟨z5, y5⟩ := cell_blk (j := 5) HB0.out (by decide)
        have HE := Aside0.mk (macRes_bad hlt hok)
        have hc : hexD (bt s (3 * i)) < 0 ∨ (0 ≤ hexD (bt s (3 * i)) ∧ hexD (bt s (3 * i + 1)) < 0) ∨ (0 ≤ hexD (bt s (3 * i)) ∧ 0 ≤ hexD (bt s (3 * i + 1)) ∧ i < 5 ∧ bt s (3 * i + 2) ≠ 58) := by
          by_cases c0 : hexD (bt s (3 * i)) < 0
          · exact .inl c0
          · by_cases c1 : hexD (bt s (3 * i + 1)) < 0
            · exact .inr (.inl ⟨by omega, c1⟩)
            · refine .inr (.inr ⟨by omega, by omega, ?_⟩)
              by_cases c2 : i < 5
              · exact ⟨c2, fun e => hok ⟨by omega, by omega, fun _ => e⟩⟩
              · exact absurd ⟨by omega, by omega, fun h => absurd h c2⟩ hok
        clear hok
        rcases hc with c0 | ⟨c0, c1⟩ | ⟨c0, c1, h5, c2⟩
        · go_wp2
          rw [HE.out]
          refine bodyPost_ret (v := .tuple #[.agg #[.int .u8 0, .int .u8 0, .int .u8 0, .int .u8 0, .int .u8 0, .int .u8 0], .int .i64 13]) (by simp [results, Tryd.results16, go_sem, z0, z1, z2, z3, z4, z5]) rfl ⟨rfl, ?_⟩
          exact below_set (below_set (below_set (below_set (below_set (below_set (pw_below_drewN HB.out nq) (Nat.le_refl _)) (Nat.le_refl _)) (Nat.le_refl _)) (Nat.le_refl _)) (Nat.le_refl _)) (Nat.le_refl _)
        · go_wp2
          rw [HE.out]
          refine bodyPost_ret (v := .tuple #[.agg #[.int .u8 0, .int .u8 0, .int .u8 0, .int .u8 0, .int .u8 0, .int .u8 0], .int .i64 13]) (by simp [results, Tryd.results16, go_sem, z0, z1, z2, z3, z4, z5]) rfl ⟨rfl, ?_⟩
          exact below_set (below_set (below_set (below_set (below_set (below_set (pw_below_drewN HB.out nq) (Nat.le_refl _)) (Nat.le_refl _)) (Nat.le_refl _)) (Nat.le_refl _)) (Nat.le_refl _)) (Nat.le_refl _)
        · have l2' := l2 h5
          have k2' : (bt s (3 * (i : Int) + 2) != 58) = true := by simp [c2]
          have k2e : (bt s (3 * (i : Int) + 2) == 58) = false := by simp [c2]
          clear l2 c2
          go_wp2
          rw [HE.out]
          refine bodyPost_ret (v := .tuple #[.agg #[.int .u8 0, .int .u8 0, .int .u8 0, .int .u8 0, .int .u8 0, .int .u8 0], .int .i64 13]) (by simp [results, Tryd.results16, go_sem, z0, z1, z2, z3, z4, z5]) rfl ⟨rfl, ?_⟩
          exact below_set (below_set (below_set (below_set (below_set (below_set (pw_below_drewN HB.out nq) (Nat.le_refl _)) (Nat.le_refl _)) (Nat.le_refl _)) (Nat.le_refl _)) (Nat.le_refl _)) (Nat.le_refl _)
    · obtain rfl : i = 6 := by omega
      have HE := Aside0.mk (macRes_ok (s := s) (fun j hj => HR.out.2.2 j hj))
      have hcs : cs = #[.int .u8 (pv s 0), .int .u8 (pv s 1), .int .u8 (pv s 2), .int .u8 (pv s 3), .int .u8 (pv s 4), .int .u8 (pv s 5)] := by
        obtain ⟨hl, hg, _⟩ := HR.out
        apply Array.ext_getElem?
        intro j
        by_cases hj : j < 6
        · rw [hg j hj]
          match j, hj with
          | 0, _ | 1, _ | 2, _ | 3, _ | 4, _ | 5, _ => rfl
        · rw [Array.getElem?_eq_none (by omega), Array.getElem?_eq_none (by simp; omega)]
      subst hcs
      obtain ⟨z0, y0⟩ := cell_blk (j := 0) hb0 (by decide)
      obtain ⟨z1, y1⟩ := cell_blk (j := 1) hb0 (by decide)
      obtain ⟨z2, y2⟩ := cell_blk (j := 2) hb0 (by decide)
      obtain ⟨z3, y3⟩ := cell_blk (j := 3) hb0 (by decide)
      obtain ⟨z4, y4⟩ := cell_blk (j := 4) hb0 (by decide)
      obtain ⟨z5, y5⟩ := cell_blk (j := 5) hb0 (by decide)
      obtain ⟨p0, _⟩ := cell_blk (j := 0) hb1 (by simp)
      obtain ⟨p1, _⟩ := cell_blk (j := 1) hb1 (by simp)
      obtain ⟨p2, _⟩ := cell_blk (j := 2) hb1 (by simp)
      obtain ⟨p3, _⟩ := cell_blk (j := 3) hb1 (by simp)
      obtain ⟨p4, _⟩ := cell_blk (j := 4) hb1 (by simp)
      obtain ⟨p5, _⟩ := cell_blk (j := 5) hb1 (by simp)
      clear hb0 hb1
      go_wp2
      rw [HE.out]
      refine bodyPost_ret (v := .tuple #[.agg #[.int .u8 (pv s 0), .int .u8 (pv s 1), .int .u8 (pv s 2), .int .u8 (pv s 3), .int .u8 (pv s 4), .int .u8 (pv s 5)], .int .i64 0]) (by simp [results, Tryd.results16, go_sem, z0, z1, z2, z3, z4, z5]) rfl ⟨rfl, ?_⟩
      exact below_set (below_set (below_set (below_set (below_set (below_set HB.out (Nat.le_refl _)) (Nat.le_refl _)) (Nat.le_refl _)) (Nat.le_refl _)) (Nat.le_refl _)) (Nat.le_refl _)
set_option maxHeartbeats 4000000 in
set_option maxRecDepth 100000 in
theorem parseMAC_long (s : ByteArray) (w : World) (hs : s.size ≠ 17) :
    Calls Tryd.prog 16 #[.string s] w fun e w' => e = .returned (.tuple #[.agg #[.int .u8 0, .int .u8 0, .int .u8 0, .int .u8 0, .int .u8 0, .int .u8 0], .int .i64 13]) ∧ Below w.heap.size w w' := by
  have hs1 : ((s.size : Int) == 17) = false := by simp; omega
  have hs2 : ((s.size : Int) != 17) = true := by simp; omega
  clear hs
  go_enter Tryd.func16, Tryd.ntmps16
  go_wp2
  refine bodyPost_ret (v := .tuple #[.agg #[.int .u8 0, .int .u8 0, .int .u8 0, .int .u8 0, .int .u8 0, .int .u8 0], .int .i64 13]) (by simp [results, Tryd.results16, go_sem]) rfl ⟨rfl, ?_⟩
  exact (Below.refl _ _).alloc (Nat.le_refl _) _
def addr_ParseMAC.f (a0 : ByteArray) : Option (Int × Int × Int × Int × Int × Int × Int) :=
  if a0.size = 17 ∧ macAll a0 = true then some (pv a0 0, pv a0 1, pv a0 2, pv a0 3, pv a0 4, pv a0 5, 0) else some (0, 0, 0, 0, 0, 0, 13)
theorem addr_ParseMAC.calls (a0 : ByteArray) (r1 r2 r3 r4 r5 r6 r7 : Int) (w : World) (h : addr_ParseMAC.f a0 = some (r1, r2, r3, r4, r5, r6, r7)) :
    Calls Tryd.prog 16 #[.string a0] w fun e w' => e = .returned (.tuple #[.agg #[.int .u8 r1, .int .u8 r2, .int .u8 r3, .int .u8 r4, .int .u8 r5, .int .u8 r6], .int .i64 r7]) ∧ Below w.heap.size w w' := by
  unfold addr_ParseMAC.f at h
  by_cases hs : a0.size = 17
  · have hw := parseMAC_walk a0 w hs
    by_cases ha : macAll a0 = true
    · rw [if_pos ⟨hs, ha⟩] at h
      simp only [Option.some.injEq, Prod.mk.injEq] at h
      obtain ⟨rfl, rfl, rfl, rfl, rfl, rfl, rfl⟩ := h
      unfold macRes at hw
      rw [if_pos ha] at hw
      exact hw
    · rw [if_neg (fun x => ha x.2)] at h
      simp only [Option.some.injEq, Prod.mk.injEq] at h
      obtain ⟨rfl, rfl, rfl, rfl, rfl, rfl, rfl⟩ := h
      unfold macRes at hw
      rw [if_neg ha] at hw
      exact hw
  · rw [if_neg (fun x => hs x.1)] at h
    simp only [Option.some.injEq, Prod.mk.injEq] at h
    obtain ⟨rfl, rfl, rfl, rfl, rfl, rfl, rfl⟩ := h
    exact parseMAC_long a0 w hs

end Go.Proofs.YtncpcjphljfcpaaDoor.PScr
