-- written by xp.sh, a program of this seat's session
import Derived.Test.YtncpcjphljfcpaaPCovx0
import Derived.Test.YtncpcjphljfcpaaPCovx2
import Derived.Test.YtncpcjphljfcpaaPCovx3
namespace Go.Proofs.Ytncpcjphljfcpaa.PCov
open Go.RowKit Go.Proofs.YtncpcjphljfcpaaW.PrintWords Go.Proofs.YtncpcjphljfcpaaW.PrintLast Go.Proofs.YtncpcjphljfcpaaW.PrintMore
attribute [local go_sem] max2_int min2_int max_two min_two max_three min_three max_four min_four   -- for this text's walks alone
set_option linter.unusedVariables false
set_option linter.unusedSimpArgs false

/-! ### weftlaw1_AddrCovers: function 3 -/
def weftlaw1_AddrCovers.f (k : Nat) (a0 : Int) (a1 : Int) : Option (Bool) := (weftlaw1_begun.f k).bind fun t138 => (if t138 = true then ((addr_Cover.f k a0 a1).bind fun t139 => ((weftref1_Cover.f k a0 a1).bind fun t142 => ((weftlaw1_same.f k t139 t142).bind fun t145 => (some t145)))) else (some false))
theorem weftlaw1_AddrCovers.mono : ∀ a0 a1 k, LeO (weftlaw1_AddrCovers.f k a0 a1) (weftlaw1_AddrCovers.f (k + 1) a0 a1) := by
  intro a0 a1 k
  unfold weftlaw1_AddrCovers.f
  repeat' first
      | (with_reducible exact addr_Cover.mono _ _ _)
      | (with_reducible exact weftlaw1_begun.mono _)
      | (with_reducible exact weftlaw1_same.mono _ _ _)
      | (with_reducible exact weftref1_Cover.mono _ _ _)
      | (with_reducible exact LeO.refl _)
      | (with_reducible exact LeO.none _)
      | (with_reducible refine LeO.ite ?_ ?_)
      | (with_reducible refine LeO.bind ?_ (fun _ => ?_))
      | exact addr_Cover.mono _ _ _
      | exact weftlaw1_begun.mono _
      | exact weftlaw1_same.mono _ _ _
      | exact weftref1_Cover.mono _ _ _
      | exact LeO.none _
      | refine LeO.ite ?_ ?_
      | refine LeO.bind ?_ (fun _ => ?_)
set_option maxHeartbeats 8000000 in
set_option maxRecDepth 100000 in
theorem weftlaw1_AddrCovers.calls (k : Nat) (a0 : Int) (a1 : Int) (r : Bool) (w : World) (h : weftlaw1_AddrCovers.f k a0 a1 = some r) :
    Calls Try.prog 3 #[.int .u32 a0, .int .u32 a1] w fun e w' => e = .returned (.bool r) ∧ Below w.heap.size w w' := by
  have HB := Aside0.mk (Below.refl w.heap.size w)
  have H : ((weftlaw1_begun.f k).bind fun t138 => (if t138 = true then ((addr_Cover.f k a0 a1).bind fun t139 => ((weftref1_Cover.f k a0 a1).bind fun t142 => ((weftlaw1_same.f k t139 t142).bind fun t145 => (some t145)))) else (some false))) = some r := h
  clear h
  replace H := Option.bind_eq_some_iff.mp H
  obtain ⟨t138, A30, H⟩ := H
  replace H : (if t138 = true then ((addr_Cover.f k a0 a1).bind fun t139 => ((weftref1_Cover.f k a0 a1).bind fun t142 => ((weftlaw1_same.f k t139 t142).bind fun t145 => (some t145)))) else (some false)) = some r := H
  have A3 := Aside0.mk A30
  clear A30
  by_cases c4 : t138 = true
  · subst c4
    have H1 : ((addr_Cover.f k a0 a1).bind fun t139 => ((weftref1_Cover.f k a0 a1).bind fun t142 => ((weftlaw1_same.f k t139 t142).bind fun t145 => (some t145)))) = some r := by rw [if_pos rfl] at H; exact H
    clear H
    have H := H1
    clear H1
    replace H := Option.bind_eq_some_iff.mp H
    obtain ⟨t139, A50, H⟩ := H
    replace H : ((weftref1_Cover.f k a0 a1).bind fun t142 => ((weftlaw1_same.f k t139 t142).bind fun t145 => (some t145))) = some r := H
    have A5 := Aside0.mk A50
    clear A50
    replace H := Option.bind_eq_some_iff.mp H
    obtain ⟨t142, A60, H⟩ := H
    replace H : ((weftlaw1_same.f k t139 t142).bind fun t145 => (some t145)) = some r := H
    have A6 := Aside0.mk A60
    clear A60
    replace H := Option.bind_eq_some_iff.mp H
    obtain ⟨t145, A70, H⟩ := H
    replace H : (some t145) = some r := H
    have A7 := Aside0.mk A70
    clear A70
    obtain rfl := Option.some.inj H
    go_enter Try.func3, Try.ntmps3
    go_wp2_with (first | ((with_reducible refine gate_callee (f := 9) rfl ?_); refine goesL_ (some 8) rfl rfl Try.func9 (by kernel_rfl) rfl #[] rfl (by (try simp only [List.map_toArray, List.map_cons, List.map_nil]); first | done | rfl | (simp only [List.length_drop, List.length_take]; rfl)) ?_; (with_reducible refine (weftlaw1_begun.calls k  true _ A3.out).mono ?_); rintro e w' ⟨rfl, ⟨nd, rfl⟩⟩; refine ⟨_, rfl, ?_⟩) | ((with_reducible refine gate_callee (f := 10) rfl ?_); refine goesL_ (some 13) rfl rfl Try.func10 (by kernel_rfl) rfl #[.int .u32 a0, .int .u32 a1] rfl (by (try simp only [List.map_toArray, List.map_cons, List.map_nil]); first | done | rfl | (simp only [List.length_drop, List.length_take]; rfl)) ?_; (with_reducible refine (addr_Cover.calls k a0 a1 t139 _ A5.out).mono ?_); rintro e w8 ⟨v140, rfl, ho0, hb⟩; refine ⟨_, rfl, ?_⟩; have n0_ := Aside0.mk (Kd.R_lower ho0 (below_size (by repeat (first | (with_reducible first | exact HB.out | apply below_alloc | apply pw_below_drewN | apply below_drew1) | exact HB.out)))); have n1_ := Aside0.mk (below_step (by repeat (first | (with_reducible first | exact HB.out | apply below_alloc | apply pw_below_drewN | apply below_drew1) | exact HB.out)) hb); clear HB; have HO141 := n0_; have HB := n1_; clear n0_ n1_; (try clear hb); (try clear hb2); (try clear hk); (try clear hi); (try clear ho0)) | ((with_reducible refine gate_callee (f := 11) rfl ?_); refine goesL_ (some 16) rfl rfl Try.func11 (by kernel_rfl) rfl #[.int .u32 a0, .int .u32 a1] rfl (by (try simp only [List.map_toArray, List.map_cons, List.map_nil]); first | done | rfl | (simp only [List.length_drop, List.length_take]; rfl)) ?_; (with_reducible refine (weftref1_Cover.calls k a0 a1 t142 _ A6.out).mono ?_); rintro e w9 ⟨v143, rfl, ho0, hb⟩; refine ⟨_, rfl, ?_⟩; have n0_ := Aside0.mk (Kd.R_elder' (by (with_reducible repeat (first | apply Kd.R_alloc | apply Kd.R_drewN | apply Kd.R_drew)); exact HO141.out) (Kd.R_base ho0) hb); have n1_ := Aside0.mk (Kd.R_lower (Kd.R_new' ho0 (Kd.R_lt (by (with_reducible repeat (first | apply Kd.R_alloc | apply Kd.R_drewN | apply Kd.R_drew)); exact HO141.out))) (below_size (by repeat (first | (with_reducible first | exact HB.out | apply below_alloc | apply pw_below_drewN | apply below_drew1) | exact HB.out)))); have n2_ := Aside0.mk (below_step (by repeat (first | (with_reducible first | exact HB.out | apply below_alloc | apply pw_below_drewN | apply below_drew1) | exact HB.out)) hb); clear HO141; clear HB; have HO141 := n0_; have HO144 := n1_; have HB := n2_; clear n0_ n1_ n2_; (try clear hb); (try clear hb2); (try clear hk); (try clear hi); (try clear ho0); obtain ⟨Ao10, co10, eo10⟩ := Kd.R_slice HO141.out; subst eo10; obtain ⟨Ao11, co11, eo11⟩ := Kd.R_slice HO144.out; subst eo11) | ((with_reducible refine gate_callee (f := 12) rfl ?_); refine goesL_ (some 19) rfl rfl Try.func12 (by kernel_rfl) rfl #[.slice Ao10 t139.length co10, .slice Ao11 t142.length co11] rfl (by (try simp only [List.map_toArray, List.map_cons, List.map_nil]); first | done | rfl | (simp only [List.length_drop, List.length_take]; rfl)) ?_; (with_reducible refine (weftlaw1_same.calls k _ _ t139 _ _ t142 t145 _ ?side1 ?side2 ?side3 ?side4 A7.out).mono ?_); (case side1 => repeat (first | exact (Kd.R_reads' HO141.out).2.2 | (with_reducible refine Kd.C_alloc ?_ _) | (with_reducible refine Kd.C_drewN ?_ _) | (with_reducible refine Kd.C_drew ?_))); (case side2 => exact (Kd.R_reads' HO141.out).2.1); (case side3 => repeat (first | exact (Kd.R_reads' HO144.out).2.2 | (with_reducible refine Kd.C_alloc ?_ _) | (with_reducible refine Kd.C_drewN ?_ _) | (with_reducible refine Kd.C_drew ?_))); (case side4 => exact (Kd.R_reads' HO144.out).2.1); rintro e w' ⟨rfl, ⟨nd, rfl⟩⟩; refine ⟨_, rfl, ?_⟩))
    go_ret
    exact ⟨by first | rfl | (simp [errW_none, errW_some] <;> rfl) | (simp [*, errW_none, errW_some] <;> rfl), by repeat (first | (with_reducible first | exact HB.out | apply below_alloc | apply pw_below_drewN | apply below_drew1) | exact HB.out)⟩
  · replace c4 := Bool.eq_false_iff.mpr c4
    subst c4
    have H1 : (some false) = some r := by rw [if_neg (show ¬ (false = true) by decide)] at H; exact H
    clear H
    have H := H1
    clear H1
    obtain rfl := Option.some.inj H
    go_enter Try.func3, Try.ntmps3
    go_wp2_with (first | ((with_reducible refine gate_callee (f := 9) rfl ?_); refine goesL_ (some 8) rfl rfl Try.func9 (by kernel_rfl) rfl #[] rfl (by (try simp only [List.map_toArray, List.map_cons, List.map_nil]); first | done | rfl | (simp only [List.length_drop, List.length_take]; rfl)) ?_; (with_reducible refine (weftlaw1_begun.calls k  false _ A3.out).mono ?_); rintro e w' ⟨rfl, ⟨nd, rfl⟩⟩; refine ⟨_, rfl, ?_⟩))
    go_ret
    exact ⟨by first | rfl | (simp [errW_none, errW_some] <;> rfl) | (simp [*, errW_none, errW_some] <;> rfl), by repeat (first | (with_reducible first | exact HB.out | apply below_alloc | apply pw_below_drewN | apply below_drew1) | exact HB.out)⟩

/-- THE ONE PURE STATEMENT of weftlaw1_AddrCovers: yours. -/
def weftlaw1_AddrCovers.Pure : Prop := ∀ (a0 : Int) (a1 : Int), (Lit.int .u32 a0).wf = true → (Lit.int .u32 a1).wf = true → ∃ k, weftlaw1_AddrCovers.f k a0 a1 = some true
theorem weftlaw1_AddrCovers.walk (P : weftlaw1_AddrCovers.Pure) (a0 : Int) (a1 : Int) (w : World) (w0 : (Lit.int .u32 a0).wf = true) (w1 : (Lit.int .u32 a1).wf = true) :
    Calls Try.prog 3 #[.int .u32 a0, .int .u32 a1] w fun e w' => e = .returned (.bool true) ∧ Below w.heap.size w w' := by
  obtain ⟨k, h⟩ := P a0 a1 w0 w1
  refine (weftlaw1_AddrCovers.calls k a0 a1 true w h).mono ?_
  rintro e w' ⟨rfl, hd⟩
  exact ⟨rfl, hd⟩

/-! ### weftlaw1_block: function 13 -/
def weftlaw1_block.j0 : Nat → Bool → Int → Int → Option (Int × Int)
  | 0, _, _, _ => none
  | k + 1, x12, x147000, x147001 => if x12 = true then (some ((-1), (-1))) else (if 0 ≤ (wrap64 (32 - x147001)) then (if (shl .i64 1 (wrap64 (32 - x147001))) = 0 then (none) else (if (Int.tmod (wrap64 (x147000)) (shl .i64 1 (wrap64 (32 - x147001)))) = 0 then (some (wrap64 (x147000), wrap64 ((wrap64 ((wrap64 (x147000)) + (shl .i64 1 (wrap64 (32 - x147001))))) - 1))) else (some ((-1), (-1))))) else (none))
def weftlaw1_block.f (k : Nat) (a0_0 : Int) (a0_1 : Int) : Option (Int × Int) := if a0_1 < 0 then (weftlaw1_block.j0 k true a0_0 a0_1) else (weftlaw1_block.j0 k (decide (a0_1 > 32)) a0_0 a0_1)
theorem weftlaw1_block.mono_l : ∀ k, (∀ y0 y1 y2, LeO (weftlaw1_block.j0 k y0 y1 y2) (weftlaw1_block.j0 (k + 1) y0 y1 y2))
  | 0 => fun _ _ _ r h => by simp [weftlaw1_block.j0] at h
  | k + 1 => by
    have ih0 := weftlaw1_block.mono_l k
    · intro y0 y1 y2
      unfold weftlaw1_block.j0
      repeat' first
      | (with_reducible exact ih0 _ _ _)
      | (with_reducible exact LeO.refl _)
      | (with_reducible exact LeO.none _)
      | (with_reducible refine LeO.ite ?_ ?_)
      | (with_reducible refine LeO.bind ?_ (fun _ => ?_))
      | exact ih0 _ _ _
      | exact LeO.none _
      | refine LeO.ite ?_ ?_
      | refine LeO.bind ?_ (fun _ => ?_)
theorem weftlaw1_block.mono : ∀ a0 a1 k, LeO (weftlaw1_block.f k a0 a1) (weftlaw1_block.f (k + 1) a0 a1) := by
  intro a0 a1 k
  have ih0 := weftlaw1_block.mono_l k
  unfold weftlaw1_block.f
  repeat' first
      | (with_reducible exact ih0 _ _ _)
      | (with_reducible exact LeO.refl _)
      | (with_reducible exact LeO.none _)
      | (with_reducible refine LeO.ite ?_ ?_)
      | (with_reducible refine LeO.bind ?_ (fun _ => ?_))
      | exact ih0 _ _ _
      | exact LeO.none _
      | refine LeO.ite ?_ ?_
      | refine LeO.bind ?_ (fun _ => ?_)
set_option maxHeartbeats 8000000 in
set_option maxRecDepth 100000 in
theorem weftlaw1_block.calls (k : Nat) (a0_0 : Int) (a0_1 : Int) (r1 : Int) (r2 : Int) (w : World) (h : weftlaw1_block.f k a0_0 a0_1 = some (r1, r2)) :
    Calls Try.prog 13 #[.agg #[.int .u32 a0_0, .int .i64 a0_1]] w fun e w' => e = .returned (.tuple #[.int .i64 r1, .int .i64 r2]) ∧ Below w.heap.size w w' := by
  have hu32 := Try.underlying32
  have HB := Aside0.mk (Below.refl w.heap.size w)
  have H : (if a0_1 < 0 then (weftlaw1_block.j0 k true a0_0 a0_1) else (weftlaw1_block.j0 k (decide (a0_1 > 32)) a0_0 a0_1)) = some (r1, r2) := h
  clear h
  have HC2 := Aside0.mk H
  clear H
  go_enter Try.func13, Try.ntmps13
  go_upto_region 1 with (first | ((with_reducible refine gate_dst (N := 1) rfl ?_); refine box_event ?hg (N := 1) ?hd (cs := #[.int .u32 a0_0, .int .i64 a0_1]) (t := 32) ?hr ?_; (case hd => rfl); (case hg => rfl); (case hr => first | (go_simp; done) | (go_simp; rfl)); intro gb146 hg w3 hbox hb; have n0_ := Aside0.mk (below_step (by repeat (first | (with_reducible first | exact HB.out | apply below_alloc | apply pw_below_drewN | apply below_drew1) | exact HB.out)) hb); have n1_ := Aside0.mk (hbox); have n2_ := Aside0.mk ((by rw [hg]; exact (below_size (by repeat (first | (with_reducible first | exact HB.out | apply below_alloc | apply pw_below_drewN | apply below_drew1) | exact HB.out))) : w.heap.size ≤ gb146)); have n3_ := Aside0.mk ((by rw [hg]; exact (below_size (by repeat (first | (with_reducible first | exact HB.out | apply below_alloc | apply pw_below_drewN | apply below_drew1) | exact HB.out))) : w.heap.size ≤ gb146)); clear HB; have HB := n0_; have BK146 := n1_; have GW146 := n2_; have GE146 := n3_; clear n0_ n1_ n2_ n3_; clear hb hbox hg))
  repeat (go_quiet (first | ((with_reducible refine gate_dst (N := 1) rfl ?_); refine box_event ?hg (N := 1) ?hd (cs := #[.int .u32 a0_0, .int .i64 a0_1]) (t := 32) ?hr ?_; (case hd => rfl); (case hg => rfl); (case hr => first | (go_simp; done) | (go_simp; rfl)); intro gb146 hg w3 hbox hb; have n0_ := Aside0.mk (below_step (by repeat (first | (with_reducible first | exact HB.out | apply below_alloc | apply pw_below_drewN | apply below_drew1) | exact HB.out)) hb); have n1_ := Aside0.mk (hbox); have n2_ := Aside0.mk ((by rw [hg]; exact (below_size (by repeat (first | (with_reducible first | exact HB.out | apply below_alloc | apply pw_below_drewN | apply below_drew1) | exact HB.out))) : w.heap.size ≤ gb146)); have n3_ := Aside0.mk ((by rw [hg]; exact (below_size (by repeat (first | (with_reducible first | exact HB.out | apply below_alloc | apply pw_below_drewN | apply below_drew1) | exact HB.out))) : w.heap.size ≤ gb146)); clear HB; have HB := n0_; have BK146 := n1_; have GW146 := n2_; have GE146 := n3_; clear n0_ n1_ n2_ n3_; clear hb hbox hg)); go_upto_region 1 with (first | ((with_reducible refine gate_dst (N := 1) rfl ?_); refine box_event ?hg (N := 1) ?hd (cs := #[.int .u32 a0_0, .int .i64 a0_1]) (t := 32) ?hr ?_; (case hd => rfl); (case hg => rfl); (case hr => first | (go_simp; done) | (go_simp; rfl)); intro gb146 hg w3 hbox hb; have n0_ := Aside0.mk (below_step (by repeat (first | (with_reducible first | exact HB.out | apply below_alloc | apply pw_below_drewN | apply below_drew1) | exact HB.out)) hb); have n1_ := Aside0.mk (hbox); have n2_ := Aside0.mk ((by rw [hg]; exact (below_size (by repeat (first | (with_reducible first | exact HB.out | apply below_alloc | apply pw_below_drewN | apply below_drew1) | exact HB.out))) : w.heap.size ≤ gb146)); have n3_ := Aside0.mk ((by rw [hg]; exact (below_size (by repeat (first | (with_reducible first | exact HB.out | apply below_alloc | apply pw_below_drewN | apply below_drew1) | exact HB.out))) : w.heap.size ≤ gb146)); clear HB; have HB := n0_; have BK146 := n1_; have GW146 := n2_; have GE146 := n3_; clear n0_ n1_ n2_ n3_; clear hb hbox hg)))
  (try simp only [Act.put, List.setIfInBounds_toArray, List.set_cons_zero, List.set_cons_succ])
  go_cut [12] (fun v12 wc => ∃ (kq : Nat) (x12_1 : Bool), v12 = .bool x12_1 ∧ Aside0 (weftlaw1_block.j0 kq x12_1 a0_0 a0_1 = some (r1, r2)) ∧ Aside0 (kq ≤ k) ∧ Aside0 (wc.heap[gb146]? = some (.cells #[.int .u32 a0_0, .int .i64 a0_1] 32 (0, 0))) ∧ Aside0 (Below w.heap.size w wc))
  case first =>
    have H := HC2.out
    clear HC2
    by_cases c4 : a0_1 < 0
    · rw [if_pos c4] at H
      have c4b0 : decide (a0_1 < 0) = true := decide_eq_true c4
      clear c4
      (first | rw [c4b0] | (simp only [i64_w, i32_w]; rw [c4b0]) | skip)
      have H' := Aside0.mk H
      clear H
      have hcz5_0 : w3.cell? ⟨gb146, 0, none⟩ = some (.int .u32 a0_0) := (blk_cell BK146.out 0).trans rfl
      have hcz5_1 : w3.cell? ⟨gb146, 1, none⟩ = some (.int .i64 a0_1) := (blk_cell BK146.out 1).trans rfl
      have hfz5_0 := blk_frozen BK146.out 0
      have hfz5_1 := blk_frozen BK146.out 1
      go_wp2
      repeat (go_quiet (fail); try go_wp2)
      go_meet
      case rel => exact ⟨_, (true), (by first | rfl | (simp; done) | (simp [*]; done)), H', ⟨by first | omega | exact Nat.le_refl _⟩, ⟨by (with_reducible repeat (first | refine blk_drewN ?_ _ | refine blk_drew ?_ | refine blk_alloc ?_ _)); exact BK146.out⟩, ⟨by repeat (first | (with_reducible first | exact HB.out | apply below_alloc | apply pw_below_drewN | apply below_drew1 | refine below_set ?_ GE146.out) | exact HB.out)⟩⟩
    · rw [if_neg c4] at H
      have c4b0 : decide (a0_1 < 0) = false := decide_eq_false c4
      clear c4
      (first | rw [c4b0] | (simp only [i64_w, i32_w]; rw [c4b0]) | skip)
      have H' := Aside0.mk H
      clear H
      have hcz6_0 : w3.cell? ⟨gb146, 0, none⟩ = some (.int .u32 a0_0) := (blk_cell BK146.out 0).trans rfl
      have hcz6_1 : w3.cell? ⟨gb146, 1, none⟩ = some (.int .i64 a0_1) := (blk_cell BK146.out 1).trans rfl
      have hfz6_0 := blk_frozen BK146.out 0
      have hfz6_1 := blk_frozen BK146.out 1
      go_wp2
      repeat (go_quiet (fail); try go_wp2)
      go_meet
      case rel => exact ⟨_, (decide (a0_1 > 32)), (by first | rfl | (simp; done) | (simp [*]; done)), H', ⟨by first | omega | exact Nat.le_refl _⟩, ⟨by (with_reducible repeat (first | refine blk_drewN ?_ _ | refine blk_drew ?_ | refine blk_alloc ?_ _)); exact BK146.out⟩, ⟨by repeat (first | (with_reducible first | exact HB.out | apply below_alloc | apply pw_below_drewN | apply below_drew1 | refine below_set ?_ GE146.out) | exact HB.out)⟩⟩
  case rest =>
    clear HC2
    try clear c1
    try clear p2
    try clear c4
    try clear c4b0
    try clear hcz5_0
    try clear hcz5_1
    try clear hcz6_0
    try clear hcz6_1
    try clear hfz5_0
    try clear hfz5_1
    try clear hfz6_0
    try clear hfz6_1
    obtain ⟨kq, x12_1, rfl, HA, HJ1, BK146, HB⟩ := hcut
    cases kq with
    | zero => exact absurd HA.out (by simp [weftlaw1_block.j0])
    | succ kj1 =>
      have H := HA.out
      clear HA
      simp only [weftlaw1_block.j0] at H
      by_cases c7 : x12_1 = true
      · subst c7
        have H1 : (some ((-1), (-1))) = some (r1, r2) := by rw [if_pos rfl] at H; exact H
        clear H
        have H := H1
        clear H1
        simp only [Option.some.injEq, Prod.mk.injEq] at H
        obtain ⟨rfl, rfl⟩ := H
        go_wp2
        repeat (go_quiet (fail); try go_wp2)
        go_ret2
        exact ⟨by first | rfl | (simp [errW_none, errW_some] <;> rfl) | (simp [*, errW_none, errW_some] <;> rfl), by repeat (first | (with_reducible first | exact HB.out | apply below_alloc | apply pw_below_drewN | apply below_drew1 | refine below_set ?_ GE146.out) | exact HB.out)⟩
      · replace c7 := Bool.eq_false_iff.mpr c7
        subst c7
        have H1 : (if 0 ≤ (wrap64 (32 - a0_1)) then (if (shl .i64 1 (wrap64 (32 - a0_1))) = 0 then (none) else (if (Int.tmod (wrap64 (a0_0)) (shl .i64 1 (wrap64 (32 - a0_1)))) = 0 then (some (wrap64 (a0_0), wrap64 ((wrap64 ((wrap64 (a0_0)) + (shl .i64 1 (wrap64 (32 - a0_1))))) - 1))) else (some ((-1), (-1))))) else (none)) = some (r1, r2) := by rw [if_neg (show ¬ (false = true) by decide)] at H; exact H
        clear H
        have H := H1
        clear H1
        obtain ⟨ji8, hji8⟩ : ∃ j_ : Int, (wrap64 (32 - a0_1)) = j_ := ⟨_, rfl⟩
        replace H : (if 0 ≤ (ji8) then (if (shl .i64 1 (ji8)) = 0 then (none) else (if (Int.tmod (wrap64 (a0_0)) (shl .i64 1 (ji8))) = 0 then (some (wrap64 (a0_0), wrap64 ((wrap64 ((wrap64 (a0_0)) + (shl .i64 1 (ji8)))) - 1))) else (some ((-1), (-1))))) else (none)) = some (r1, r2) := by first | (rw [hji8] at H; exact H) | (simp only [hji8] at H ⊢; exact H)
        have hji8w : (IntKind.i64.wrap (32 - a0_1)) = ji8 := (i64_w _).trans hji8
        by_cases c9 : 0 ≤ (ji8)
        · rw [if_pos c9] at H
          have c9b0 := eq_true c9
          have c9b1 : decide (0 ≤ (ji8)) = true := decide_eq_true c9
          clear c9
          obtain ⟨ji10, hji10⟩ : ∃ j_ : Int, (shl .i64 1 (ji8)) = j_ := ⟨_, rfl⟩
          replace H : (if (ji10) = 0 then (none) else (if (Int.tmod (wrap64 (a0_0)) (ji10)) = 0 then (some (wrap64 (a0_0), wrap64 ((wrap64 ((wrap64 (a0_0)) + (ji10))) - 1))) else (some ((-1), (-1))))) = some (r1, r2) := by first | (rw [hji10] at H; exact H) | (simp only [hji10] at H ⊢; exact H)
          have hji10_ : (IntKind.i64.wrap (1 * 2 ^ min (ji8).toNat 64)) = ji10 := hji10
          have hji10z : (ji8) ≤ 64 → (IntKind.i64.wrap (1 * 2 ^ (ji8).toNat)) = ji10 := shl_small hji10
          have hji10u : (IntKind.i64.wrap (2 ^ min (ji8).toNat 64)) = ji10 := by have h_ := hji10_; rw [Int.one_mul] at h_; exact h_
          have hji10v : (ji8) ≤ 64 → (IntKind.i64.wrap (2 ^ (ji8).toNat)) = ji10 := fun hle_ => by have h_ := hji10z hle_; rw [Int.one_mul] at h_; exact h_
          have hji10y : (wrap64 (1 * 2 ^ min (ji8).toNat 64)) = ji10 := (i64_w _).symm.trans hji10_
          have hji10x : (ji8) ≤ 64 → (wrap64 (1 * 2 ^ (ji8).toNat)) = ji10 := fun h_ => (i64_w _).symm.trans (hji10z h_)
          by_cases c11 : (ji10) = 0
          · rw [if_pos c11] at H
            exact absurd H (by simp)
          · rw [if_neg c11] at H
            have c11b0 : ((ji10) == 0) = false := beq_eq_false_iff_ne.mpr c11
            have c11b1 : ((ji10) != 0) = true := bne_iff_ne.mpr c11
            by_cases c12 : (Int.tmod (wrap64 (a0_0)) (ji10)) = 0
            · rw [if_pos c12] at H
              have c12b0 : ((Int.tmod (wrap64 (a0_0)) (ji10)) == 0) = true := beq_iff_eq.mpr c12
              have c12b1 : ((Int.tmod (wrap64 (a0_0)) (ji10)) != 0) = false := bne_eq_false_iff_eq.mpr c12
              clear c12
              simp only [Option.some.injEq, Prod.mk.injEq] at H
              obtain ⟨rfl, rfl⟩ := H
              have hcz13_0 : wc.cell? ⟨gb146, 0, none⟩ = some (.int .u32 a0_0) := (blk_cell BK146.out 0).trans rfl
              have hcz13_1 : wc.cell? ⟨gb146, 1, none⟩ = some (.int .i64 a0_1) := (blk_cell BK146.out 1).trans rfl
              have hfz13_0 := blk_frozen BK146.out 0
              have hfz13_1 := blk_frozen BK146.out 1
              go_wp2
              repeat (go_quiet (fail); try go_wp2)
              go_ret2
              exact ⟨by first | rfl | (simp [errW_none, errW_some] <;> rfl) | (simp only [← hji8, ← hji10]; first | rfl | (simp [errW_none, errW_some] <;> rfl)) | (simp [*, errW_none, errW_some] <;> rfl), by repeat (first | (with_reducible first | exact HB.out | apply below_alloc | apply pw_below_drewN | apply below_drew1 | refine below_set ?_ GE146.out) | exact HB.out)⟩
            · rw [if_neg c12] at H
              have c12b0 : ((Int.tmod (wrap64 (a0_0)) (ji10)) == 0) = false := beq_eq_false_iff_ne.mpr c12
              have c12b1 : ((Int.tmod (wrap64 (a0_0)) (ji10)) != 0) = true := bne_iff_ne.mpr c12
              simp only [Option.some.injEq, Prod.mk.injEq] at H
              obtain ⟨rfl, rfl⟩ := H
              have hcz14_0 : wc.cell? ⟨gb146, 0, none⟩ = some (.int .u32 a0_0) := (blk_cell BK146.out 0).trans rfl
              have hcz14_1 : wc.cell? ⟨gb146, 1, none⟩ = some (.int .i64 a0_1) := (blk_cell BK146.out 1).trans rfl
              have hfz14_0 := blk_frozen BK146.out 0
              have hfz14_1 := blk_frozen BK146.out 1
              go_wp2
              repeat (go_quiet (fail); try go_wp2)
              go_ret2
              exact ⟨by first | rfl | (simp [errW_none, errW_some] <;> rfl) | (simp only [← hji8, ← hji10]; first | rfl | (simp [errW_none, errW_some] <;> rfl)) | (simp [*, errW_none, errW_some] <;> rfl), by repeat (first | (with_reducible first | exact HB.out | apply below_alloc | apply pw_below_drewN | apply below_drew1 | refine below_set ?_ GE146.out) | exact HB.out)⟩
        · rw [if_neg c9] at H
          exact absurd H (by simp)

/-! ### weftlaw1_parent: function 14 -/
def weftlaw1_parent.f (a0_0 : Int) (a0_1 : Int) : Option (Int × Int) := if 0 ≤ (wrap64 (33 - a0_1)) then (if (shl .i64 1 (wrap64 (33 - a0_1))) = 0 then (none) else (some (wrap64 ((wrap64 (Int.tdiv (wrap64 (a0_0)) (shl .i64 1 (wrap64 (33 - a0_1))))) * (shl .i64 1 (wrap64 (33 - a0_1)))), wrap64 ((wrap64 ((wrap64 ((wrap64 (Int.tdiv (wrap64 (a0_0)) (shl .i64 1 (wrap64 (33 - a0_1))))) * (shl .i64 1 (wrap64 (33 - a0_1))))) + (shl .i64 1 (wrap64 (33 - a0_1))))) - 1)))) else (none)
set_option maxHeartbeats 8000000 in
set_option maxRecDepth 100000 in
theorem weftlaw1_parent.calls (a0_0 : Int) (a0_1 : Int) (r1 : Int) (r2 : Int) (w : World) (h : weftlaw1_parent.f a0_0 a0_1 = some (r1, r2)) :
    Calls Try.prog 14 #[.agg #[.int .u32 a0_0, .int .i64 a0_1]] w fun e w' => e = .returned (.tuple #[.int .i64 r1, .int .i64 r2]) ∧ Below w.heap.size w w' := by
  have hu32 := Try.underlying32
  have HB := Aside0.mk (Below.refl w.heap.size w)
  have H : (if 0 ≤ (wrap64 (33 - a0_1)) then (if (shl .i64 1 (wrap64 (33 - a0_1))) = 0 then (none) else (some (wrap64 ((wrap64 (Int.tdiv (wrap64 (a0_0)) (shl .i64 1 (wrap64 (33 - a0_1))))) * (shl .i64 1 (wrap64 (33 - a0_1)))), wrap64 ((wrap64 ((wrap64 ((wrap64 (Int.tdiv (wrap64 (a0_0)) (shl .i64 1 (wrap64 (33 - a0_1))))) * (shl .i64 1 (wrap64 (33 - a0_1))))) + (shl .i64 1 (wrap64 (33 - a0_1))))) - 1)))) else (none)) = some (r1, r2) := h
  clear h
  obtain ⟨ji2, hji2⟩ : ∃ j_ : Int, (wrap64 (33 - a0_1)) = j_ := ⟨_, rfl⟩
  replace H : (if 0 ≤ (ji2) then (if (shl .i64 1 (ji2)) = 0 then (none) else (some (wrap64 ((wrap64 (Int.tdiv (wrap64 (a0_0)) (shl .i64 1 (ji2)))) * (shl .i64 1 (ji2))), wrap64 ((wrap64 ((wrap64 ((wrap64 (Int.tdiv (wrap64 (a0_0)) (shl .i64 1 (ji2)))) * (shl .i64 1 (ji2)))) + (shl .i64 1 (ji2)))) - 1)))) else (none)) = some (r1, r2) := by first | (rw [hji2] at H; exact H) | (simp only [hji2] at H ⊢; exact H)
  have hji2w : (IntKind.i64.wrap (33 - a0_1)) = ji2 := (i64_w _).trans hji2
  by_cases c3 : 0 ≤ (ji2)
  · rw [if_pos c3] at H
    have c3b0 := eq_true c3
    have c3b1 : decide (0 ≤ (ji2)) = true := decide_eq_true c3
    clear c3
    obtain ⟨ji4, hji4⟩ : ∃ j_ : Int, (shl .i64 1 (ji2)) = j_ := ⟨_, rfl⟩
    replace H : (if (ji4) = 0 then (none) else (some (wrap64 ((wrap64 (Int.tdiv (wrap64 (a0_0)) (ji4))) * (ji4)), wrap64 ((wrap64 ((wrap64 ((wrap64 (Int.tdiv (wrap64 (a0_0)) (ji4))) * (ji4))) + (ji4))) - 1)))) = some (r1, r2) := by first | (rw [hji4] at H; exact H) | (simp only [hji4] at H ⊢; exact H)
    have hji4_ : (IntKind.i64.wrap (1 * 2 ^ min (ji2).toNat 64)) = ji4 := hji4
    have hji4z : (ji2) ≤ 64 → (IntKind.i64.wrap (1 * 2 ^ (ji2).toNat)) = ji4 := shl_small hji4
    have hji4u : (IntKind.i64.wrap (2 ^ min (ji2).toNat 64)) = ji4 := by have h_ := hji4_; rw [Int.one_mul] at h_; exact h_
    have hji4v : (ji2) ≤ 64 → (IntKind.i64.wrap (2 ^ (ji2).toNat)) = ji4 := fun hle_ => by have h_ := hji4z hle_; rw [Int.one_mul] at h_; exact h_
    have hji4y : (wrap64 (1 * 2 ^ min (ji2).toNat 64)) = ji4 := (i64_w _).symm.trans hji4_
    have hji4x : (ji2) ≤ 64 → (wrap64 (1 * 2 ^ (ji2).toNat)) = ji4 := fun h_ => (i64_w _).symm.trans (hji4z h_)
    by_cases c5 : (ji4) = 0
    · rw [if_pos c5] at H
      exact absurd H (by simp)
    · rw [if_neg c5] at H
      have c5b0 : ((ji4) == 0) = false := beq_eq_false_iff_ne.mpr c5
      have c5b1 : ((ji4) != 0) = true := bne_iff_ne.mpr c5
      simp only [Option.some.injEq, Prod.mk.injEq] at H
      obtain ⟨rfl, rfl⟩ := H
      go_enter Try.func14, Try.ntmps14
      go_wp2_with (first | ((with_reducible refine gate_dst (N := 1) rfl ?_); refine box_event ?hg (N := 1) ?hd (cs := #[.int .u32 a0_0, .int .i64 a0_1]) (t := 32) ?hr ?_; (case hd => rfl); (case hg => rfl); (case hr => first | (go_simp; done) | (go_simp; rfl)); intro gb147 hg w6 hbox hb; have n0_ := Aside0.mk (below_step (by repeat (first | (with_reducible first | exact HB.out | apply below_alloc | apply pw_below_drewN | apply below_drew1) | exact HB.out)) hb); have n1_ := Aside0.mk (hbox); have n2_ := Aside0.mk ((by rw [hg]; exact (below_size (by repeat (first | (with_reducible first | exact HB.out | apply below_alloc | apply pw_below_drewN | apply below_drew1) | exact HB.out))) : w.heap.size ≤ gb147)); have n3_ := Aside0.mk ((by rw [hg]; exact (below_size (by repeat (first | (with_reducible first | exact HB.out | apply below_alloc | apply pw_below_drewN | apply below_drew1) | exact HB.out))) : w.heap.size ≤ gb147)); clear HB; have HB := n0_; have BK147 := n1_; have GW147 := n2_; have GE147 := n3_; clear n0_ n1_ n2_ n3_; clear hb hbox hg; have hcz7_0 : w6.cell? ⟨gb147, 0, none⟩ = some (.int .u32 a0_0) := (blk_cell BK147.out 0).trans rfl; have hcz7_1 : w6.cell? ⟨gb147, 1, none⟩ = some (.int .i64 a0_1) := (blk_cell BK147.out 1).trans rfl; have hfz7_0 := blk_frozen BK147.out 0; have hfz7_1 := blk_frozen BK147.out 1))
      go_ret2
      exact ⟨by first | rfl | (simp [errW_none, errW_some] <;> rfl) | (simp only [← hji2, ← hji4]; first | rfl | (simp [errW_none, errW_some] <;> rfl)) | (simp [*, errW_none, errW_some] <;> rfl), by repeat (first | (with_reducible first | exact HB.out | apply below_alloc | apply pw_below_drewN | apply below_drew1 | refine below_set ?_ GE147.out) | exact HB.out)⟩
  · rw [if_neg c3] at H
    exact absurd H (by simp)

/-! ### weftlaw1_AddrCoverWhole: function 4 -/
mutual
def weftlaw1_AddrCoverWhole.l0 : Nat → Int → Int → List (S32) → Int → Int → Option (Bool)
  | 0, _, _, _, _, _ => none
  | k + 1, x0, x1, x6, x7, x8 => if x8 < (x6.length : Int) then (if 0 ≤ x8 then ((weftlaw1_block.f k ((rd_T32 x6 x8).f0) ((rd_T32 x6 x8).f1)).bind fun bt153 => (if bt153.1 = x7 then (weftlaw1_AddrCoverWhole.j1 k x0 x1 x6 x8 bt153.2 (decide (bt153.2 > (wrap64 (x1))))) else (weftlaw1_AddrCoverWhole.j1 k x0 x1 x6 x8 bt153.2 true))) else (none)) else (if x0 > x1 then (some ((x6.length : Int) == 0)) else (if x7 = (wrap64 ((wrap64 (x1)) + 1)) then (some (decide ((x6.length : Int) ≤ 62))) else (some false)))
def weftlaw1_AddrCoverWhole.j1 : Nat → Int → Int → List (S32) → Int → Int → Bool → Option (Bool)
  | 0, _, _, _, _, _, _ => none
  | k + 1, x0, x1, x6, x8, x10, x43 => if x43 = true then (some false) else (if 0 ≤ x8 then (if x8 < (x6.length : Int) then ((weftlaw1_parent.f ((rd_T32 x6 x8).f0) ((rd_T32 x6 x8).f1)).bind fun bt156 => (if ((rd_T32 x6 x8).f1) > 0 then (if bt156.1 ≥ (wrap64 (x0)) then (if bt156.2 ≤ (wrap64 (x1)) then (some false) else (weftlaw1_AddrCoverWhole.l0 k x0 x1 x6 (wrap64 (x10 + 1)) (wrap64 (x8 + 1)))) else (weftlaw1_AddrCoverWhole.l0 k x0 x1 x6 (wrap64 (x10 + 1)) (wrap64 (x8 + 1)))) else (weftlaw1_AddrCoverWhole.l0 k x0 x1 x6 (wrap64 (x10 + 1)) (wrap64 (x8 + 1))))) else (none)) else (none))
end
def weftlaw1_AddrCoverWhole.f (k : Nat) (a0 : Int) (a1 : Int) : Option (Bool) := (weftlaw1_begun.f k).bind fun t148 => (if t148 = true then ((addr_Cover.f k a0 a1).bind fun t149 => (weftlaw1_AddrCoverWhole.l0 k a0 a1 t149 (wrap64 (a0)) 0)) else (some false))
theorem weftlaw1_AddrCoverWhole.mono_l : ∀ k, (∀ y0 y1 y2 y3 y4, LeO (weftlaw1_AddrCoverWhole.l0 k y0 y1 y2 y3 y4) (weftlaw1_AddrCoverWhole.l0 (k + 1) y0 y1 y2 y3 y4)) ∧ (∀ y0 y1 y2 y3 y4 y5, LeO (weftlaw1_AddrCoverWhole.j1 k y0 y1 y2 y3 y4 y5) (weftlaw1_AddrCoverWhole.j1 (k + 1) y0 y1 y2 y3 y4 y5))
  | 0 => ⟨fun _ _ _ _ _ r h => by simp [weftlaw1_AddrCoverWhole.l0] at h, fun _ _ _ _ _ _ r h => by simp [weftlaw1_AddrCoverWhole.j1] at h⟩
  | k + 1 => by
    obtain ⟨ih0, ih1⟩ := weftlaw1_AddrCoverWhole.mono_l k
    refine ⟨?_, ?_⟩
    · intro y0 y1 y2 y3 y4
      unfold weftlaw1_AddrCoverWhole.l0
      repeat' first
      | (with_reducible exact ih0 _ _ _ _ _)
      | (with_reducible exact ih1 _ _ _ _ _ _)
      | (with_reducible exact addr_Cover.mono _ _ _)
      | (with_reducible exact weftlaw1_begun.mono _)
      | (with_reducible exact weftlaw1_block.mono _ _ _)
      | (with_reducible exact LeO.refl _)
      | (with_reducible exact LeO.none _)
      | (with_reducible refine LeO.ite ?_ ?_)
      | (with_reducible refine LeO.bind ?_ (fun _ => ?_))
      | exact ih0 _ _ _ _ _
      | exact ih1 _ _ _ _ _ _
      | exact addr_Cover.mono _ _ _
      | exact weftlaw1_begun.mono _
      | exact weftlaw1_block.mono _ _ _
      | exact LeO.none _
      | refine LeO.ite ?_ ?_
      | refine LeO.bind ?_ (fun _ => ?_)
    · intro y0 y1 y2 y3 y4 y5
      unfold weftlaw1_AddrCoverWhole.j1
      repeat' first
      | (with_reducible exact ih0 _ _ _ _ _)
      | (with_reducible exact ih1 _ _ _ _ _ _)
      | (with_reducible exact addr_Cover.mono _ _ _)
      | (with_reducible exact weftlaw1_begun.mono _)
      | (with_reducible exact weftlaw1_block.mono _ _ _)
      | (with_reducible exact LeO.refl _)
      | (with_reducible exact LeO.none _)
      | (with_reducible refine LeO.ite ?_ ?_)
      | (with_reducible refine LeO.bind ?_ (fun _ => ?_))
      | exact ih0 _ _ _ _ _
      | exact ih1 _ _ _ _ _ _
      | exact addr_Cover.mono _ _ _
      | exact weftlaw1_begun.mono _
      | exact weftlaw1_block.mono _ _ _
      | exact LeO.none _
      | refine LeO.ite ?_ ?_
      | refine LeO.bind ?_ (fun _ => ?_)
theorem weftlaw1_AddrCoverWhole.mono : ∀ a0 a1 k, LeO (weftlaw1_AddrCoverWhole.f k a0 a1) (weftlaw1_AddrCoverWhole.f (k + 1) a0 a1) := by
  intro a0 a1 k
  obtain ⟨ih0, ih1⟩ := weftlaw1_AddrCoverWhole.mono_l k
  unfold weftlaw1_AddrCoverWhole.f
  repeat' first
      | (with_reducible exact ih0 _ _ _ _ _)
      | (with_reducible exact ih1 _ _ _ _ _ _)
      | (with_reducible exact addr_Cover.mono _ _ _)
      | (with_reducible exact weftlaw1_begun.mono _)
      | (with_reducible exact weftlaw1_block.mono _ _ _)
      | (with_reducible exact LeO.refl _)
      | (with_reducible exact LeO.none _)
      | (with_reducible refine LeO.ite ?_ ?_)
      | (with_reducible refine LeO.bind ?_ (fun _ => ?_))
      | exact ih0 _ _ _ _ _
      | exact ih1 _ _ _ _ _ _
      | exact addr_Cover.mono _ _ _
      | exact weftlaw1_begun.mono _
      | exact weftlaw1_block.mono _ _ _
      | exact LeO.none _
      | refine LeO.ite ?_ ?_
      | refine LeO.bind ?_ (fun _ => ?_)
set_option maxHeartbeats 8000000 in
set_option maxRecDepth 100000 in
theorem weftlaw1_AddrCoverWhole.calls (k : Nat) (a0 : Int) (a1 : Int) (r : Bool) (w : World) (h : weftlaw1_AddrCoverWhole.f k a0 a1 = some r) :
    Calls Try.prog 4 #[.int .u32 a0, .int .u32 a1] w fun e w' => e = .returned (.bool r) ∧ Below w.heap.size w w' := by
  have hu32 := Try.underlying32
  have HB := Aside0.mk (Below.refl w.heap.size w)
  have H : ((weftlaw1_begun.f k).bind fun t148 => (if t148 = true then ((addr_Cover.f k a0 a1).bind fun t149 => (weftlaw1_AddrCoverWhole.l0 k a0 a1 t149 (wrap64 (a0)) 0)) else (some false))) = some r := h
  clear h
  replace H := Option.bind_eq_some_iff.mp H
  obtain ⟨t148, A30, H⟩ := H
  replace H : (if t148 = true then ((addr_Cover.f k a0 a1).bind fun t149 => (weftlaw1_AddrCoverWhole.l0 k a0 a1 t149 (wrap64 (a0)) 0)) else (some false)) = some r := H
  have A3 := Aside0.mk A30
  clear A30
  by_cases c4 : t148 = true
  · subst c4
    have H1 : ((addr_Cover.f k a0 a1).bind fun t149 => (weftlaw1_AddrCoverWhole.l0 k a0 a1 t149 (wrap64 (a0)) 0)) = some r := by rw [if_pos rfl] at H; exact H
    clear H
    have H := H1
    clear H1
    replace H := Option.bind_eq_some_iff.mp H
    obtain ⟨t149, A50, H⟩ := H
    replace H : (weftlaw1_AddrCoverWhole.l0 k a0 a1 t149 (wrap64 (a0)) 0) = some r := H
    have A5 := Aside0.mk A50
    clear A50
    have H' := Aside0.mk H
    clear H
    go_enter Try.func4, Try.ntmps4
    go_wp2_with (first | ((with_reducible refine gate_callee (f := 9) rfl ?_); refine goesL_ (some 13) rfl rfl Try.func9 (by kernel_rfl) rfl #[] rfl (by (try simp only [List.map_toArray, List.map_cons, List.map_nil]); first | done | rfl | (simp only [List.length_drop, List.length_take]; rfl)) ?_; (with_reducible refine (weftlaw1_begun.calls k  true _ A3.out).mono ?_); rintro e w' ⟨rfl, ⟨nd, rfl⟩⟩; refine ⟨_, rfl, ?_⟩) | ((with_reducible refine gate_callee (f := 10) rfl ?_); refine goesL_ (some 18) rfl rfl Try.func10 (by kernel_rfl) rfl #[.int .u32 a0, .int .u32 a1] rfl (by (try simp only [List.map_toArray, List.map_cons, List.map_nil]); first | done | rfl | (simp only [List.length_drop, List.length_take]; rfl)) ?_; (with_reducible refine (addr_Cover.calls k a0 a1 t149 _ A5.out).mono ?_); rintro e w6 ⟨v150, rfl, ho0, hb⟩; refine ⟨_, rfl, ?_⟩; have n0_ := Aside0.mk (Kd.R_lower ho0 (below_size (by repeat (first | (with_reducible first | exact HB.out | apply below_alloc | apply pw_below_drewN | apply below_drew1) | exact HB.out)))); have n1_ := Aside0.mk (below_step (by repeat (first | (with_reducible first | exact HB.out | apply below_alloc | apply pw_below_drewN | apply below_drew1) | exact HB.out)) hb); clear HB; have HO151 := n0_; have HB := n1_; clear n0_ n1_; (try clear hb); (try clear hb2); (try clear hk); (try clear hi); (try clear ho0)))
    go_loopg [7, 8] k (fun kq v7 v8 w' => ∃ (x7_1 : Int) (x8_1 : Int), v7 = .int .i64 x7_1 ∧ v8 = .int .i64 x8_1 ∧ Aside0 (weftlaw1_AddrCoverWhole.l0 kq a0 a1 t149 x7_1 x8_1 = some r) ∧ Aside0 (kq ≤ k) ∧ Aside0 (Kd.R k32 32 w' w.heap.size (fun _ => True) v150 t149) ∧ Aside0 (Below w.heap.size w w'))
    case atStart => exact ⟨(wrap64 (a0)), (0), (by first | rfl | (simp; done) | (simp [*]; done)), (by first | rfl | (simp; done) | (simp [*]; done)), H', ⟨Nat.le_refl _⟩, ⟨by (with_reducible repeat (first | apply Kd.R_alloc | apply Kd.R_drewN | apply Kd.R_drew)); exact HO151.out⟩, ⟨by repeat (first | (with_reducible first | exact HB.out | apply below_alloc | apply pw_below_drewN | apply below_drew1) | exact HB.out)⟩⟩
    case round =>
      clear H'
      try clear c1
      try clear p2
      try clear c4
      try clear p6
      obtain ⟨x7_1, x8_1, rfl, rfl, HA, HK1, HO_6, HB⟩ := hrel
      cases gk with
      | zero => exact absurd HA.out (by simp [weftlaw1_AddrCoverWhole.l0])
      | succ k1 =>
        have H := HA.out
        clear HA
        simp only [weftlaw1_AddrCoverWhole.l0] at H
        by_cases c7 : x8_1 < (t149.length : Int)
        · rw [if_pos c7] at H
          have c7b0 : decide (x8_1 < (t149.length : Int)) = true := decide_eq_true c7
          clear c7
          by_cases c8 : 0 ≤ x8_1
          · rw [if_pos c8] at H
            have c8b0 : decide (0 ≤ x8_1) = true := decide_eq_true c8
            clear c8
            replace H := Option.bind_eq_some_iff.mp H
            obtain ⟨⟨t153, t154⟩, A90, H⟩ := H
            replace H : (if t153 = x7_1 then (weftlaw1_AddrCoverWhole.j1 k1 a0 a1 t149 x8_1 t154 (decide (t154 > (wrap64 (a1))))) else (weftlaw1_AddrCoverWhole.j1 k1 a0 a1 t149 x8_1 t154 true)) = some r := H
            have A9 := Aside0.mk A90
            clear A90
            have HC10 := Aside0.mk H
            clear H
            obtain ⟨Ao11, co11, eo11⟩ := Kd.R_slice HO_6.out
            subst eo11
            have p152 : 0 ≤ (x8_1 : Int) := of_decide_eq_true (by first | (with_reducible assumption) | assumption)
            have q152 : x8_1 < (t149.length : Int) := of_decide_eq_true (by first | (with_reducible assumption) | assumption)
            obtain ⟨ad152, e152, hx152_0, hx152_1⟩ := at_T32 (Kd.R_reads' HO_6.out).2.2 x8_1 p152 q152
            cases e152
            replace p152 := eq_true p152
            replace q152 := eq_true q152
            go_upto_region 10 with (first | ((with_reducible refine gate_callee (f := 13) rfl ?_); refine goesL_ (some 32) rfl rfl Try.func13 (by kernel_rfl) rfl #[.agg #[.int .u32 ((rd_T32 t149 x8_1).f0), .int .i64 ((rd_T32 t149 x8_1).f1)]] rfl (by (try simp only [List.map_toArray, List.map_cons, List.map_nil]); first | done | rfl | (simp only [List.length_drop, List.length_take]; rfl)) ?_; (with_reducible refine (weftlaw1_block.calls k1 ((rd_T32 t149 x8_1).f0) ((rd_T32 t149 x8_1).f1) t153 t154 _ A9.out).mono ?_); rintro e w12 ⟨rfl, hb⟩; refine ⟨_, rfl, ?_⟩; have n0_ := Aside0.mk (Kd.R_below (by (with_reducible repeat (first | apply Kd.R_alloc | apply Kd.R_drewN | apply Kd.R_drew)); exact HO_6.out) hb); have n1_ := Aside0.mk (below_step (by repeat (first | (with_reducible first | exact HB.out | apply below_alloc | apply pw_below_drewN | apply below_drew1) | exact HB.out)) hb); clear HO_6; clear HB; have HO_6 := n0_; have HB := n1_; clear n0_ n1_; (try clear hb); (try clear hb2); (try clear hk); (try clear hi)))
            (try simp only [Act.put, List.setIfInBounds_toArray, List.set_cons_zero, List.set_cons_succ])
            go_cut [43] (fun v43 wc => ∃ (kq : Nat) (x43_9 : Bool), v43 = .bool x43_9 ∧ Aside0 (weftlaw1_AddrCoverWhole.j1 kq a0 a1 t149 x8_1 t154 x43_9 = some r) ∧ Aside0 (kq ≤ k1) ∧ Aside0 (Kd.R k32 32 wc w.heap.size (fun _ => True) (.slice (some ad152) t149.length co11) t149) ∧ Aside0 (Below w.heap.size w wc))
            case first =>
              have H := HC10.out
              clear HC10
              by_cases c13 : t153 = x7_1
              · rw [if_pos c13] at H
                have c13b0 : (t153 == x7_1) = true := beq_iff_eq.mpr c13
                have c13b1 : (t153 != x7_1) = false := bne_eq_false_iff_eq.mpr c13
                clear c13
                (first | rw [c13b0] | (simp only [i64_w, i32_w]; rw [c13b0]) | skip)
                have H' := Aside0.mk H
                clear H
                go_wp2
                go_meet
                case rel => exact ⟨_, (decide (t154 > (wrap64 (a1)))), (by first | rfl | (simp; done) | (simp [*]; done)), H', ⟨by have := HK1.out; first | omega | exact Nat.le_refl _⟩, ⟨by (with_reducible repeat (first | apply Kd.R_alloc | apply Kd.R_drewN | apply Kd.R_drew)); exact HO_6.out⟩, ⟨by repeat (first | (with_reducible first | exact HB.out | apply below_alloc | apply pw_below_drewN | apply below_drew1) | exact HB.out)⟩⟩
              · rw [if_neg c13] at H
                have c13b0 : (t153 == x7_1) = false := beq_eq_false_iff_ne.mpr c13
                have c13b1 : (t153 != x7_1) = true := bne_iff_ne.mpr c13
                (first | rw [c13b0] | (simp only [i64_w, i32_w]; rw [c13b0]) | skip)
                have H' := Aside0.mk H
                clear H
                go_wp2
                go_meet
                case rel => exact ⟨_, (true), (by first | rfl | (simp; done) | (simp [*]; done)), H', ⟨by have := HK1.out; first | omega | exact Nat.le_refl _⟩, ⟨by (with_reducible repeat (first | apply Kd.R_alloc | apply Kd.R_drewN | apply Kd.R_drew)); exact HO_6.out⟩, ⟨by repeat (first | (with_reducible first | exact HB.out | apply below_alloc | apply pw_below_drewN | apply below_drew1) | exact HB.out)⟩⟩
            case rest =>
              clear HC10
              try clear c1
              try clear p1
              try clear q1
              try clear hx1
              try clear p2
              try clear c4
              try clear p6
              try clear c7
              try clear c7b0
              try clear c8
              try clear c8b0
              try clear c9
              try clear c10
              try clear c13
              try clear c13b0
              try clear c13b1
              try clear hx152_0
              try clear hx152_1
              try clear p152
              try clear p2
              try clear p6
              try clear q152
              obtain ⟨kq, x43_9, rfl, HA, HJ9, HO_6, HB⟩ := hcut
              cases kq with
              | zero => exact absurd HA.out (by simp [weftlaw1_AddrCoverWhole.j1])
              | succ kj9 =>
                have H := HA.out
                clear HA
                simp only [weftlaw1_AddrCoverWhole.j1] at H
                by_cases c14 : x43_9 = true
                · subst c14
                  have H1 : (some false) = some r := by rw [if_pos rfl] at H; exact H
                  clear H
                  have H := H1
                  clear H1
                  obtain rfl := Option.some.inj H
                  go_wp2
                  go_ret
                  exact ⟨by first | rfl | (simp [errW_none, errW_some] <;> rfl) | (simp [*, errW_none, errW_some] <;> rfl), by repeat (first | (with_reducible first | exact HB.out | apply below_alloc | apply pw_below_drewN | apply below_drew1) | exact HB.out)⟩
                · replace c14 := Bool.eq_false_iff.mpr c14
                  subst c14
                  have H1 : (if 0 ≤ x8_1 then (if x8_1 < (t149.length : Int) then ((weftlaw1_parent.f ((rd_T32 t149 x8_1).f0) ((rd_T32 t149 x8_1).f1)).bind fun bt156 => (if ((rd_T32 t149 x8_1).f1) > 0 then (if bt156.1 ≥ (wrap64 (a0)) then (if bt156.2 ≤ (wrap64 (a1)) then (some false) else (weftlaw1_AddrCoverWhole.l0 kj9 a0 a1 t149 (wrap64 (t154 + 1)) (wrap64 (x8_1 + 1)))) else (weftlaw1_AddrCoverWhole.l0 kj9 a0 a1 t149 (wrap64 (t154 + 1)) (wrap64 (x8_1 + 1)))) else (weftlaw1_AddrCoverWhole.l0 kj9 a0 a1 t149 (wrap64 (t154 + 1)) (wrap64 (x8_1 + 1))))) else (none)) else (none)) = some r := by rw [if_neg (show ¬ (false = true) by decide)] at H; exact H
                  clear H
                  have H := H1
                  clear H1
                  by_cases c15 : 0 ≤ x8_1
                  · rw [if_pos c15] at H
                    have c15b0 : decide (0 ≤ x8_1) = true := decide_eq_true c15
                    clear c15
                    by_cases c16 : x8_1 < (t149.length : Int)
                    · rw [if_pos c16] at H
                      have c16b0 : decide (x8_1 < (t149.length : Int)) = true := decide_eq_true c16
                      clear c16
                      replace H := Option.bind_eq_some_iff.mp H
                      obtain ⟨⟨t156, t157⟩, A170, H⟩ := H
                      replace H : (if ((rd_T32 t149 x8_1).f1) > 0 then (if t156 ≥ (wrap64 (a0)) then (if t157 ≤ (wrap64 (a1)) then (some false) else (weftlaw1_AddrCoverWhole.l0 kj9 a0 a1 t149 (wrap64 (t154 + 1)) (wrap64 (x8_1 + 1)))) else (weftlaw1_AddrCoverWhole.l0 kj9 a0 a1 t149 (wrap64 (t154 + 1)) (wrap64 (x8_1 + 1)))) else (weftlaw1_AddrCoverWhole.l0 kj9 a0 a1 t149 (wrap64 (t154 + 1)) (wrap64 (x8_1 + 1)))) = some r := H
                      have A17 := Aside0.mk A170
                      clear A170
                      by_cases c18 : ((rd_T32 t149 x8_1).f1) > 0
                      · rw [if_pos c18] at H
                        have c18b0 : decide (0 < ((rd_T32 t149 x8_1).f1)) = true := decide_eq_true c18
                        clear c18
                        by_cases c19 : t156 ≥ (wrap64 (a0))
                        · rw [if_pos c19] at H
                          have c19b0 : decide ((wrap64 (a0)) ≤ t156) = true := decide_eq_true c19
                          clear c19
                          by_cases c20 : t157 ≤ (wrap64 (a1))
                          · rw [if_pos c20] at H
                            have c20b0 : decide (t157 ≤ (wrap64 (a1))) = true := decide_eq_true c20
                            clear c20
                            obtain rfl := Option.some.inj H
                            have p155 : 0 ≤ (x8_1 : Int) := of_decide_eq_true (by first | (with_reducible assumption) | assumption)
                            have q155 : x8_1 < (t149.length : Int) := of_decide_eq_true (by first | (with_reducible assumption) | assumption)
                            obtain ⟨ad155, e155, hx155_0, hx155_1⟩ := at_T32 (Kd.R_reads' HO_6.out).2.2 x8_1 p155 q155
                            obtain rfl : ad152 = ad155 := (by injection e155)
                            replace p155 := eq_true p155
                            replace q155 := eq_true q155
                            go_wp2_with (first | ((with_reducible refine gate_callee (f := 14) rfl ?_); refine goesL_ (some 49) rfl rfl Try.func14 (by kernel_rfl) rfl #[.agg #[.int .u32 ((rd_T32 t149 x8_1).f0), .int .i64 ((rd_T32 t149 x8_1).f1)]] rfl (by (try simp only [List.map_toArray, List.map_cons, List.map_nil]); first | done | rfl | (simp only [List.length_drop, List.length_take]; rfl)) ?_; (with_reducible refine (weftlaw1_parent.calls ((rd_T32 t149 x8_1).f0) ((rd_T32 t149 x8_1).f1) t156 t157 _ A17.out).mono ?_); rintro e w21 ⟨rfl, hb⟩; refine ⟨_, rfl, ?_⟩; have n0_ := Aside0.mk (Kd.R_below (by (with_reducible repeat (first | apply Kd.R_alloc | apply Kd.R_drewN | apply Kd.R_drew)); exact HO_6.out) hb); have n1_ := Aside0.mk (below_step (by repeat (first | (with_reducible first | exact HB.out | apply below_alloc | apply pw_below_drewN | apply below_drew1) | exact HB.out)) hb); clear HO_6; clear HB; have HO_6 := n0_; have HB := n1_; clear n0_ n1_; (try clear hb); (try clear hb2); (try clear hk); (try clear hi); have p158 : 0 ≤ (x8_1 : Int) := of_decide_eq_true (by first | (with_reducible assumption) | assumption); have q158 : x8_1 < (t149.length : Int) := of_decide_eq_true (by first | (with_reducible assumption) | assumption); obtain ⟨ad158, e158, hx158_0, hx158_1⟩ := at_T32 (Kd.R_reads' HO_6.out).2.2 x8_1 p158 q158; obtain rfl : ad152 = ad158 := (by injection e158); replace p158 := eq_true p158; replace q158 := eq_true q158))
                            go_ret
                            exact ⟨by first | rfl | (simp [errW_none, errW_some] <;> rfl) | (simp [*, errW_none, errW_some] <;> rfl), by repeat (first | (with_reducible first | exact HB.out | apply below_alloc | apply pw_below_drewN | apply below_drew1) | exact HB.out)⟩
                          · rw [if_neg c20] at H
                            have c20b0 : decide (t157 ≤ (wrap64 (a1))) = false := decide_eq_false c20
                            clear c20
                            have H' := Aside0.mk H
                            clear H
                            have p155 : 0 ≤ (x8_1 : Int) := of_decide_eq_true (by first | (with_reducible assumption) | assumption)
                            have q155 : x8_1 < (t149.length : Int) := of_decide_eq_true (by first | (with_reducible assumption) | assumption)
                            obtain ⟨ad155, e155, hx155_0, hx155_1⟩ := at_T32 (Kd.R_reads' HO_6.out).2.2 x8_1 p155 q155
                            obtain rfl : ad152 = ad155 := (by injection e155)
                            replace p155 := eq_true p155
                            replace q155 := eq_true q155
                            go_wp2_with (first | ((with_reducible refine gate_callee (f := 14) rfl ?_); refine goesL_ (some 49) rfl rfl Try.func14 (by kernel_rfl) rfl #[.agg #[.int .u32 ((rd_T32 t149 x8_1).f0), .int .i64 ((rd_T32 t149 x8_1).f1)]] rfl (by (try simp only [List.map_toArray, List.map_cons, List.map_nil]); first | done | rfl | (simp only [List.length_drop, List.length_take]; rfl)) ?_; (with_reducible refine (weftlaw1_parent.calls ((rd_T32 t149 x8_1).f0) ((rd_T32 t149 x8_1).f1) t156 t157 _ A17.out).mono ?_); rintro e w22 ⟨rfl, hb⟩; refine ⟨_, rfl, ?_⟩; have n0_ := Aside0.mk (Kd.R_below (by (with_reducible repeat (first | apply Kd.R_alloc | apply Kd.R_drewN | apply Kd.R_drew)); exact HO_6.out) hb); have n1_ := Aside0.mk (below_step (by repeat (first | (with_reducible first | exact HB.out | apply below_alloc | apply pw_below_drewN | apply below_drew1) | exact HB.out)) hb); clear HO_6; clear HB; have HO_6 := n0_; have HB := n1_; clear n0_ n1_; (try clear hb); (try clear hb2); (try clear hk); (try clear hi); have p158 : 0 ≤ (x8_1 : Int) := of_decide_eq_true (by first | (with_reducible assumption) | assumption); have q158 : x8_1 < (t149.length : Int) := of_decide_eq_true (by first | (with_reducible assumption) | assumption); obtain ⟨ad158, e158, hx158_0, hx158_1⟩ := at_T32 (Kd.R_reads' HO_6.out).2.2 x8_1 p158 q158; obtain rfl : ad152 = ad158 := (by injection e158); replace p158 := eq_true p158; replace q158 := eq_true q158))
                            go_roundg kj9
                            case measure => have := HK1.out; have := HJ9.out; omega
                            case rel => exact ⟨(wrap64 (t154 + 1)), (wrap64 (x8_1 + 1)), (by first | rfl | (simp; done) | (simp [*]; done)), (by first | rfl | (simp; done) | (simp [*]; done)), H', ⟨by have := HK1.out; have := HJ9.out; omega⟩, ⟨by (with_reducible repeat (first | apply Kd.R_alloc | apply Kd.R_drewN | apply Kd.R_drew)); exact HO_6.out⟩, ⟨by repeat (first | (with_reducible first | exact HB.out | apply below_alloc | apply pw_below_drewN | apply below_drew1) | exact HB.out)⟩⟩
                        · rw [if_neg c19] at H
                          have c19b0 : decide ((wrap64 (a0)) ≤ t156) = false := decide_eq_false c19
                          clear c19
                          have H' := Aside0.mk H
                          clear H
                          have p155 : 0 ≤ (x8_1 : Int) := of_decide_eq_true (by first | (with_reducible assumption) | assumption)
                          have q155 : x8_1 < (t149.length : Int) := of_decide_eq_true (by first | (with_reducible assumption) | assumption)
                          obtain ⟨ad155, e155, hx155_0, hx155_1⟩ := at_T32 (Kd.R_reads' HO_6.out).2.2 x8_1 p155 q155
                          obtain rfl : ad152 = ad155 := (by injection e155)
                          replace p155 := eq_true p155
                          replace q155 := eq_true q155
                          go_wp2_with (first | ((with_reducible refine gate_callee (f := 14) rfl ?_); refine goesL_ (some 49) rfl rfl Try.func14 (by kernel_rfl) rfl #[.agg #[.int .u32 ((rd_T32 t149 x8_1).f0), .int .i64 ((rd_T32 t149 x8_1).f1)]] rfl (by (try simp only [List.map_toArray, List.map_cons, List.map_nil]); first | done | rfl | (simp only [List.length_drop, List.length_take]; rfl)) ?_; (with_reducible refine (weftlaw1_parent.calls ((rd_T32 t149 x8_1).f0) ((rd_T32 t149 x8_1).f1) t156 t157 _ A17.out).mono ?_); rintro e w23 ⟨rfl, hb⟩; refine ⟨_, rfl, ?_⟩; have n0_ := Aside0.mk (Kd.R_below (by (with_reducible repeat (first | apply Kd.R_alloc | apply Kd.R_drewN | apply Kd.R_drew)); exact HO_6.out) hb); have n1_ := Aside0.mk (below_step (by repeat (first | (with_reducible first | exact HB.out | apply below_alloc | apply pw_below_drewN | apply below_drew1) | exact HB.out)) hb); clear HO_6; clear HB; have HO_6 := n0_; have HB := n1_; clear n0_ n1_; (try clear hb); (try clear hb2); (try clear hk); (try clear hi); have p158 : 0 ≤ (x8_1 : Int) := of_decide_eq_true (by first | (with_reducible assumption) | assumption); have q158 : x8_1 < (t149.length : Int) := of_decide_eq_true (by first | (with_reducible assumption) | assumption); obtain ⟨ad158, e158, hx158_0, hx158_1⟩ := at_T32 (Kd.R_reads' HO_6.out).2.2 x8_1 p158 q158; obtain rfl : ad152 = ad158 := (by injection e158); replace p158 := eq_true p158; replace q158 := eq_true q158))
                          go_roundg kj9
                          case measure => have := HK1.out; have := HJ9.out; omega
                          case rel => exact ⟨(wrap64 (t154 + 1)), (wrap64 (x8_1 + 1)), (by first | rfl | (simp; done) | (simp [*]; done)), (by first | rfl | (simp; done) | (simp [*]; done)), H', ⟨by have := HK1.out; have := HJ9.out; omega⟩, ⟨by (with_reducible repeat (first | apply Kd.R_alloc | apply Kd.R_drewN | apply Kd.R_drew)); exact HO_6.out⟩, ⟨by repeat (first | (with_reducible first | exact HB.out | apply below_alloc | apply pw_below_drewN | apply below_drew1) | exact HB.out)⟩⟩
                      · rw [if_neg c18] at H
                        have c18b0 : decide (0 < ((rd_T32 t149 x8_1).f1)) = false := decide_eq_false c18
                        clear c18
                        have H' := Aside0.mk H
                        clear H
                        have p155 : 0 ≤ (x8_1 : Int) := of_decide_eq_true (by first | (with_reducible assumption) | assumption)
                        have q155 : x8_1 < (t149.length : Int) := of_decide_eq_true (by first | (with_reducible assumption) | assumption)
                        obtain ⟨ad155, e155, hx155_0, hx155_1⟩ := at_T32 (Kd.R_reads' HO_6.out).2.2 x8_1 p155 q155
                        obtain rfl : ad152 = ad155 := (by injection e155)
                        replace p155 := eq_true p155
                        replace q155 := eq_true q155
                        go_wp2_with (first | ((with_reducible refine gate_callee (f := 14) rfl ?_); refine goesL_ (some 49) rfl rfl Try.func14 (by kernel_rfl) rfl #[.agg #[.int .u32 ((rd_T32 t149 x8_1).f0), .int .i64 ((rd_T32 t149 x8_1).f1)]] rfl (by (try simp only [List.map_toArray, List.map_cons, List.map_nil]); first | done | rfl | (simp only [List.length_drop, List.length_take]; rfl)) ?_; (with_reducible refine (weftlaw1_parent.calls ((rd_T32 t149 x8_1).f0) ((rd_T32 t149 x8_1).f1) t156 t157 _ A17.out).mono ?_); rintro e w24 ⟨rfl, hb⟩; refine ⟨_, rfl, ?_⟩; have n0_ := Aside0.mk (Kd.R_below (by (with_reducible repeat (first | apply Kd.R_alloc | apply Kd.R_drewN | apply Kd.R_drew)); exact HO_6.out) hb); have n1_ := Aside0.mk (below_step (by repeat (first | (with_reducible first | exact HB.out | apply below_alloc | apply pw_below_drewN | apply below_drew1) | exact HB.out)) hb); clear HO_6; clear HB; have HO_6 := n0_; have HB := n1_; clear n0_ n1_; (try clear hb); (try clear hb2); (try clear hk); (try clear hi); have p158 : 0 ≤ (x8_1 : Int) := of_decide_eq_true (by first | (with_reducible assumption) | assumption); have q158 : x8_1 < (t149.length : Int) := of_decide_eq_true (by first | (with_reducible assumption) | assumption); obtain ⟨ad158, e158, hx158_0, hx158_1⟩ := at_T32 (Kd.R_reads' HO_6.out).2.2 x8_1 p158 q158; obtain rfl : ad152 = ad158 := (by injection e158); replace p158 := eq_true p158; replace q158 := eq_true q158))
                        go_roundg kj9
                        case measure => have := HK1.out; have := HJ9.out; omega
                        case rel => exact ⟨(wrap64 (t154 + 1)), (wrap64 (x8_1 + 1)), (by first | rfl | (simp; done) | (simp [*]; done)), (by first | rfl | (simp; done) | (simp [*]; done)), H', ⟨by have := HK1.out; have := HJ9.out; omega⟩, ⟨by (with_reducible repeat (first | apply Kd.R_alloc | apply Kd.R_drewN | apply Kd.R_drew)); exact HO_6.out⟩, ⟨by repeat (first | (with_reducible first | exact HB.out | apply below_alloc | apply pw_below_drewN | apply below_drew1) | exact HB.out)⟩⟩
                    · rw [if_neg c16] at H
                      exact absurd H (by simp)
                  · rw [if_neg c15] at H
                    exact absurd H (by simp)
          · rw [if_neg c8] at H
            exact absurd H (by simp)
        · rw [if_neg c7] at H
          have c7b0 : decide (x8_1 < (t149.length : Int)) = false := decide_eq_false c7
          clear c7
          by_cases c25 : a0 > a1
          · rw [if_pos c25] at H
            have c25b0 : decide (a1 < a0) = true := decide_eq_true c25
            clear c25
            obtain rfl := Option.some.inj H
            obtain ⟨Ao26, co26, eo26⟩ := Kd.R_slice HO_6.out
            subst eo26
            go_wp2
            go_ret
            exact ⟨by first | rfl | (simp [errW_none, errW_some] <;> rfl) | (simp [*, errW_none, errW_some] <;> rfl), by repeat (first | (with_reducible first | exact HB.out | apply below_alloc | apply pw_below_drewN | apply below_drew1) | exact HB.out)⟩
          · rw [if_neg c25] at H
            have c25b0 : decide (a1 < a0) = false := decide_eq_false c25
            clear c25
            by_cases c27 : x7_1 = (wrap64 ((wrap64 (a1)) + 1))
            · rw [if_pos c27] at H
              have c27b0 : (x7_1 == (wrap64 ((wrap64 (a1)) + 1))) = true := beq_iff_eq.mpr c27
              have c27b1 : (x7_1 != (wrap64 ((wrap64 (a1)) + 1))) = false := bne_eq_false_iff_eq.mpr c27
              clear c27
              obtain rfl := Option.some.inj H
              obtain ⟨Ao28, co28, eo28⟩ := Kd.R_slice HO_6.out
              subst eo28
              go_wp2
              go_ret
              exact ⟨by first | rfl | (simp [errW_none, errW_some] <;> rfl) | (simp [*, errW_none, errW_some] <;> rfl), by repeat (first | (with_reducible first | exact HB.out | apply below_alloc | apply pw_below_drewN | apply below_drew1) | exact HB.out)⟩
            · rw [if_neg c27] at H
              have c27b0 : (x7_1 == (wrap64 ((wrap64 (a1)) + 1))) = false := beq_eq_false_iff_ne.mpr c27
              have c27b1 : (x7_1 != (wrap64 ((wrap64 (a1)) + 1))) = true := bne_iff_ne.mpr c27
              obtain rfl := Option.some.inj H
              obtain ⟨Ao29, co29, eo29⟩ := Kd.R_slice HO_6.out
              subst eo29
              go_wp2
              go_ret
              exact ⟨by first | rfl | (simp [errW_none, errW_some] <;> rfl) | (simp [*, errW_none, errW_some] <;> rfl), by repeat (first | (with_reducible first | exact HB.out | apply below_alloc | apply pw_below_drewN | apply below_drew1) | exact HB.out)⟩
  · replace c4 := Bool.eq_false_iff.mpr c4
    subst c4
    have H1 : (some false) = some r := by rw [if_neg (show ¬ (false = true) by decide)] at H; exact H
    clear H
    have H := H1
    clear H1
    obtain rfl := Option.some.inj H
    go_enter Try.func4, Try.ntmps4
    go_wp2_with (first | ((with_reducible refine gate_callee (f := 9) rfl ?_); refine goesL_ (some 13) rfl rfl Try.func9 (by kernel_rfl) rfl #[] rfl (by (try simp only [List.map_toArray, List.map_cons, List.map_nil]); first | done | rfl | (simp only [List.length_drop, List.length_take]; rfl)) ?_; (with_reducible refine (weftlaw1_begun.calls k  false _ A3.out).mono ?_); rintro e w' ⟨rfl, ⟨nd, rfl⟩⟩; refine ⟨_, rfl, ?_⟩))
    go_ret
    exact ⟨by first | rfl | (simp [errW_none, errW_some] <;> rfl) | (simp [*, errW_none, errW_some] <;> rfl), by repeat (first | (with_reducible first | exact HB.out | apply below_alloc | apply pw_below_drewN | apply below_drew1) | exact HB.out)⟩

/-- THE ONE PURE STATEMENT of weftlaw1_AddrCoverWhole: yours. -/
def weftlaw1_AddrCoverWhole.Pure : Prop := ∀ (a0 : Int) (a1 : Int), (Lit.int .u32 a0).wf = true → (Lit.int .u32 a1).wf = true → ∃ k, weftlaw1_AddrCoverWhole.f k a0 a1 = some true
theorem weftlaw1_AddrCoverWhole.walk (P : weftlaw1_AddrCoverWhole.Pure) (a0 : Int) (a1 : Int) (w : World) (w0 : (Lit.int .u32 a0).wf = true) (w1 : (Lit.int .u32 a1).wf = true) :
    Calls Try.prog 4 #[.int .u32 a0, .int .u32 a1] w fun e w' => e = .returned (.bool true) ∧ Below w.heap.size w w' := by
  obtain ⟨k, h⟩ := P a0 a1 w0 w1
  refine (weftlaw1_AddrCoverWhole.calls k a0 a1 true w h).mono ?_
  rintro e w' ⟨rfl, hd⟩
  exact ⟨rfl, hd⟩

end Go.Proofs.Ytncpcjphljfcpaa.PCov
