-- written by xp.sh, a program of this seat's session
import Derived.Test.YtncpcjphljfcpaaPTwox0
import Derived.Test.YtncpcjphljfcpaaPTwox3
import Derived.Test.YtncpcjphljfcpaaPTwox4
import Derived.Test.YtncpcjphljfcpaaPTwox5
namespace Go.Proofs.Ytncpcjphljfcpaa.PTwo
open Go.RowKit Go.Proofs.YtncpcjphljfcpaaW.PrintWords Go.Proofs.YtncpcjphljfcpaaW.PrintLast Go.Proofs.YtncpcjphljfcpaaW.PrintMore
attribute [local go_sem] max2_int min2_int max_two min_two max_three min_three max_four min_four   -- for this text's walks alone
set_option linter.unusedVariables false
set_option linter.unusedSimpArgs false

/-! ### weftlaw1_again: function 22 -/
mutual
def weftlaw1_again.j0 : Nat → ByteArray → Bool → Option (Bool)
  | 0, _, _ => none
  | k + 1, x0, x25 => if x25 = true then (some false) else ((addr_ParsePrefix.f k x0).bind fun bt131 => ((addr_FormatPrefix.f k bt131.1 bt131.2.1).bind fun bt135 => (if bt131.2.2 = 0 then (if bt135.2 = 0 then (weftlaw1_again.j1 k x0 (bt135.1.toList != x0.toList)) else (weftlaw1_again.j1 k x0 true)) else (weftlaw1_again.j1 k x0 false))))
def weftlaw1_again.j1 : Nat → ByteArray → Bool → Option (Bool)
  | 0, _, _ => none
  | k + 1, x0, x46 => if x46 = true then (some false) else ((addr_ParseMAC.f x0).bind fun bt137 => (if bt137.2.2.2.2.2.2 = 0 then ((addr_FormatMAC.f bt137.1 bt137.2.1 bt137.2.2.1 bt137.2.2.2.1 bt137.2.2.2.2.1 bt137.2.2.2.2.2.1).bind fun t145 => (if (t145.size : Int) = (x0.size : Int) then (weftlaw1_again.l0 k x0 t145 0) else (some false))) else (some true)))
def weftlaw1_again.l0 : Nat → ByteArray → ByteArray → Int → Option (Bool)
  | 0, _, _, _ => none
  | k + 1, x0, x7, x10 => if x10 < (x0.size : Int) then (if 0 ≤ x10 then (if (bt x0 x10) ≥ 65 then (weftlaw1_again.j3 k x0 x7 x10 (bt x0 x10) (decide ((bt x0 x10) ≤ 70))) else (weftlaw1_again.j3 k x0 x7 x10 (bt x0 x10) false)) else (none)) else (some true)
def weftlaw1_again.j3 : Nat → ByteArray → ByteArray → Int → Int → Bool → Option (Bool)
  | 0, _, _, _, _, _ => none
  | k + 1, x0, x7, x10, x11, x75 => if x75 = true then (if 0 ≤ x10 then (if x10 < (x7.size : Int) then (if ((x11 + 32) % 256) = (bt x7 x10) then (weftlaw1_again.l0 k x0 x7 (wrap64 (x10 + 1))) else (some false)) else (none)) else (none)) else (if 0 ≤ x10 then (if x10 < (x7.size : Int) then (if x11 = (bt x7 x10) then (weftlaw1_again.l0 k x0 x7 (wrap64 (x10 + 1))) else (some false)) else (none)) else (none))
end
def weftlaw1_again.f (k : Nat) (a0 : ByteArray) : Option (Bool) := (addr_Parse.f k a0).bind fun bt128 => ((addr_Format.f k bt128.1).bind fun t130 => (if bt128.2 = 0 then (weftlaw1_again.j0 k a0 (t130.toList != a0.toList)) else (weftlaw1_again.j0 k a0 false)))
theorem weftlaw1_again.mono_l : ∀ k, (∀ y0 y1, LeO (weftlaw1_again.j0 k y0 y1) (weftlaw1_again.j0 (k + 1) y0 y1)) ∧ (∀ y0 y1, LeO (weftlaw1_again.j1 k y0 y1) (weftlaw1_again.j1 (k + 1) y0 y1)) ∧ (∀ y0 y1 y2, LeO (weftlaw1_again.l0 k y0 y1 y2) (weftlaw1_again.l0 (k + 1) y0 y1 y2)) ∧ (∀ y0 y1 y2 y3 y4, LeO (weftlaw1_again.j3 k y0 y1 y2 y3 y4) (weftlaw1_again.j3 (k + 1) y0 y1 y2 y3 y4))
  | 0 => ⟨fun _ _ r h => by simp [weftlaw1_again.j0] at h, fun _ _ r h => by simp [weftlaw1_again.j1] at h, fun _ _ _ r h => by simp [weftlaw1_again.l0] at h, fun _ _ _ _ _ r h => by simp [weftlaw1_again.j3] at h⟩
  | k + 1 => by
    obtain ⟨ih0, ih1, ih2, ih3⟩ := weftlaw1_again.mono_l k
    refine ⟨?_, ?_, ?_, ?_⟩
    · intro y0 y1
      unfold weftlaw1_again.j0
      repeat' first
      | (with_reducible exact ih0 _ _)
      | (with_reducible exact ih1 _ _)
      | (with_reducible exact ih2 _ _ _)
      | (with_reducible exact ih3 _ _ _ _ _)
      | (with_reducible exact addr_Format.mono _ _)
      | (with_reducible exact addr_FormatPrefix.mono _ _ _)
      | (with_reducible exact addr_Parse.mono _ _)
      | (with_reducible exact addr_ParsePrefix.mono _ _)
      | (with_reducible exact LeO.refl _)
      | (with_reducible exact LeO.none _)
      | (with_reducible refine LeO.ite ?_ ?_)
      | (with_reducible refine LeO.bind ?_ (fun _ => ?_))
      | exact ih0 _ _
      | exact ih1 _ _
      | exact ih2 _ _ _
      | exact ih3 _ _ _ _ _
      | exact addr_Format.mono _ _
      | exact addr_FormatPrefix.mono _ _ _
      | exact addr_Parse.mono _ _
      | exact addr_ParsePrefix.mono _ _
      | exact LeO.none _
      | refine LeO.ite ?_ ?_
      | refine LeO.bind ?_ (fun _ => ?_)
    · intro y0 y1
      unfold weftlaw1_again.j1
      repeat' first
      | (with_reducible exact ih0 _ _)
      | (with_reducible exact ih1 _ _)
      | (with_reducible exact ih2 _ _ _)
      | (with_reducible exact ih3 _ _ _ _ _)
      | (with_reducible exact addr_Format.mono _ _)
      | (with_reducible exact addr_FormatPrefix.mono _ _ _)
      | (with_reducible exact addr_Parse.mono _ _)
      | (with_reducible exact addr_ParsePrefix.mono _ _)
      | (with_reducible exact LeO.refl _)
      | (with_reducible exact LeO.none _)
      | (with_reducible refine LeO.ite ?_ ?_)
      | (with_reducible refine LeO.bind ?_ (fun _ => ?_))
      | exact ih0 _ _
      | exact ih1 _ _
      | exact ih2 _ _ _
      | exact ih3 _ _ _ _ _
      | exact addr_Format.mono _ _
      | exact addr_FormatPrefix.mono _ _ _
      | exact addr_Parse.mono _ _
      | exact addr_ParsePrefix.mono _ _
      | exact LeO.none _
      | refine LeO.ite ?_ ?_
      | refine LeO.bind ?_ (fun _ => ?_)
    · intro y0 y1 y2
      unfold weftlaw1_again.l0
      repeat' first
      | (with_reducible exact ih0 _ _)
      | (with_reducible exact ih1 _ _)
      | (with_reducible exact ih2 _ _ _)
      | (with_reducible exact ih3 _ _ _ _ _)
      | (with_reducible exact addr_Format.mono _ _)
      | (with_reducible exact addr_FormatPrefix.mono _ _ _)
      | (with_reducible exact addr_Parse.mono _ _)
      | (with_reducible exact addr_ParsePrefix.mono _ _)
      | (with_reducible exact LeO.refl _)
      | (with_reducible exact LeO.none _)
      | (with_reducible refine LeO.ite ?_ ?_)
      | (with_reducible refine LeO.bind ?_ (fun _ => ?_))
      | exact ih0 _ _
      | exact ih1 _ _
      | exact ih2 _ _ _
      | exact ih3 _ _ _ _ _
      | exact addr_Format.mono _ _
      | exact addr_FormatPrefix.mono _ _ _
      | exact addr_Parse.mono _ _
      | exact addr_ParsePrefix.mono _ _
      | exact LeO.none _
      | refine LeO.ite ?_ ?_
      | refine LeO.bind ?_ (fun _ => ?_)
    · intro y0 y1 y2 y3 y4
      unfold weftlaw1_again.j3
      repeat' first
      | (with_reducible exact ih0 _ _)
      | (with_reducible exact ih1 _ _)
      | (with_reducible exact ih2 _ _ _)
      | (with_reducible exact ih3 _ _ _ _ _)
      | (with_reducible exact addr_Format.mono _ _)
      | (with_reducible exact addr_FormatPrefix.mono _ _ _)
      | (with_reducible exact addr_Parse.mono _ _)
      | (with_reducible exact addr_ParsePrefix.mono _ _)
      | (with_reducible exact LeO.refl _)
      | (with_reducible exact LeO.none _)
      | (with_reducible refine LeO.ite ?_ ?_)
      | (with_reducible refine LeO.bind ?_ (fun _ => ?_))
      | exact ih0 _ _
      | exact ih1 _ _
      | exact ih2 _ _ _
      | exact ih3 _ _ _ _ _
      | exact addr_Format.mono _ _
      | exact addr_FormatPrefix.mono _ _ _
      | exact addr_Parse.mono _ _
      | exact addr_ParsePrefix.mono _ _
      | exact LeO.none _
      | refine LeO.ite ?_ ?_
      | refine LeO.bind ?_ (fun _ => ?_)
theorem weftlaw1_again.mono : ∀ a0 k, LeO (weftlaw1_again.f k a0) (weftlaw1_again.f (k + 1) a0) := by
  intro a0 k
  obtain ⟨ih0, ih1, ih2, ih3⟩ := weftlaw1_again.mono_l k
  unfold weftlaw1_again.f
  repeat' first
      | (with_reducible exact ih0 _ _)
      | (with_reducible exact ih1 _ _)
      | (with_reducible exact ih2 _ _ _)
      | (with_reducible exact ih3 _ _ _ _ _)
      | (with_reducible exact addr_Format.mono _ _)
      | (with_reducible exact addr_FormatPrefix.mono _ _ _)
      | (with_reducible exact addr_Parse.mono _ _)
      | (with_reducible exact addr_ParsePrefix.mono _ _)
      | (with_reducible exact LeO.refl _)
      | (with_reducible exact LeO.none _)
      | (with_reducible refine LeO.ite ?_ ?_)
      | (with_reducible refine LeO.bind ?_ (fun _ => ?_))
      | exact ih0 _ _
      | exact ih1 _ _
      | exact ih2 _ _ _
      | exact ih3 _ _ _ _ _
      | exact addr_Format.mono _ _
      | exact addr_FormatPrefix.mono _ _ _
      | exact addr_Parse.mono _ _
      | exact addr_ParsePrefix.mono _ _
      | exact LeO.none _
      | refine LeO.ite ?_ ?_
      | refine LeO.bind ?_ (fun _ => ?_)
set_option maxHeartbeats 8000000 in
set_option maxRecDepth 100000 in
theorem weftlaw1_again.calls (k : Nat) (a0 : ByteArray) (r : Bool) (w : World) (h : weftlaw1_again.f k a0 = some r) :
    Calls Try.prog 22 #[.string a0] w fun e w' => e = .returned (.bool r) ∧ Below w.heap.size w w' := by
  have hu32 := Try.underlying32
  have hu36 := Try.underlying36
  have HB := Aside0.mk (Below.refl w.heap.size w)
  have H : ((addr_Parse.f k a0).bind fun bt128 => ((addr_Format.f k bt128.1).bind fun t130 => (if bt128.2 = 0 then (weftlaw1_again.j0 k a0 (t130.toList != a0.toList)) else (weftlaw1_again.j0 k a0 false)))) = some r := h
  clear h
  replace H := Option.bind_eq_some_iff.mp H
  obtain ⟨⟨t128, t129⟩, A20, H⟩ := H
  replace H : ((addr_Format.f k t128).bind fun t130 => (if t129 = 0 then (weftlaw1_again.j0 k a0 (t130.toList != a0.toList)) else (weftlaw1_again.j0 k a0 false))) = some r := H
  have A2 := Aside0.mk A20
  clear A20
  replace H := Option.bind_eq_some_iff.mp H
  obtain ⟨t130, A30, H⟩ := H
  replace H : (if t129 = 0 then (weftlaw1_again.j0 k a0 (t130.toList != a0.toList)) else (weftlaw1_again.j0 k a0 false)) = some r := H
  have A3 := Aside0.mk A30
  clear A30
  have HC4 := Aside0.mk H
  clear H
  go_enter Try.func22, Try.ntmps22
  go_upto_region 3 with (first | ((with_reducible refine gate_callee (f := 16) rfl ?_); refine goesL_ (some 14) rfl rfl Try.func16 (by kernel_rfl) rfl #[.string a0] rfl (by (try simp only [List.map_toArray, List.map_cons, List.map_nil]); first | done | rfl | (simp only [List.length_drop, List.length_take]; rfl)) ?_; (with_reducible refine (addr_Parse.calls k a0 t128 t129 _ A2.out).mono ?_); rintro e w' ⟨rfl, ⟨nd, rfl⟩⟩; refine ⟨_, rfl, ?_⟩) | ((with_reducible refine gate_callee (f := 15) rfl ?_); refine goesL_ (some 18) rfl rfl Try.func15 (by kernel_rfl) rfl #[.int .u32 t128] rfl (by (try simp only [List.map_toArray, List.map_cons, List.map_nil]); first | done | rfl | (simp only [List.length_drop, List.length_take]; rfl)) ?_; (with_reducible refine (addr_Format.calls k t128 t130 _ A3.out).mono ?_); rintro e w5 ⟨rfl, hb⟩; refine ⟨_, rfl, ?_⟩; have n0_ := Aside0.mk (below_step (by repeat (first | (with_reducible first | exact HB.out | apply below_alloc | apply pw_below_drewN | apply below_drew1) | exact HB.out)) hb); clear HB; have HB := n0_; clear n0_; (try clear hb); (try clear hb2); (try clear hk); (try clear hi)))
  (try simp only [Act.put, List.setIfInBounds_toArray, List.set_cons_zero, List.set_cons_succ])
  go_cut [25] (fun v25 wc => ∃ (kq : Nat) (x25_3 : Bool), v25 = .bool x25_3 ∧ Aside0 (weftlaw1_again.j0 kq a0 x25_3 = some r) ∧ Aside0 (kq ≤ k) ∧ Aside0 (Below w.heap.size w wc))
  case first =>
    have H := HC4.out
    clear HC4
    by_cases c6 : t129 = 0
    · rw [if_pos c6] at H
      have c6b0 : (t129 == 0) = true := beq_iff_eq.mpr c6
      have c6b1 : (t129 != 0) = false := bne_eq_false_iff_eq.mpr c6
      clear c6
      (first | rw [c6b0] | (simp only [i64_w, i32_w]; rw [c6b0]) | skip)
      have H' := Aside0.mk H
      clear H
      go_wp2
      go_meet
      case rel => exact ⟨_, ((t130.toList != a0.toList)), (by first | rfl | (simp; done) | (simp [*]; done)), H', ⟨by first | omega | exact Nat.le_refl _⟩, ⟨by repeat (first | (with_reducible first | exact HB.out | apply below_alloc | apply pw_below_drewN | apply below_drew1) | exact HB.out)⟩⟩
    · rw [if_neg c6] at H
      have c6b0 : (t129 == 0) = false := beq_eq_false_iff_ne.mpr c6
      have c6b1 : (t129 != 0) = true := bne_iff_ne.mpr c6
      (first | rw [c6b0] | (simp only [i64_w, i32_w]; rw [c6b0]) | skip)
      have H' := Aside0.mk H
      clear H
      go_wp2
      go_meet
      case rel => exact ⟨_, (false), (by first | rfl | (simp; done) | (simp [*]; done)), H', ⟨by first | omega | exact Nat.le_refl _⟩, ⟨by repeat (first | (with_reducible first | exact HB.out | apply below_alloc | apply pw_below_drewN | apply below_drew1) | exact HB.out)⟩⟩
  case rest =>
    clear HC4
    try clear c1
    try clear c2
    try clear p2
    try clear c6
    try clear c6b0
    try clear c6b1
    obtain ⟨kq, x25_3, rfl, HA, HJ3, HB⟩ := hcut
    cases kq with
    | zero => exact absurd HA.out (by simp [weftlaw1_again.j0])
    | succ kj3 =>
      have H := HA.out
      clear HA
      simp only [weftlaw1_again.j0] at H
      by_cases c7 : x25_3 = true
      · subst c7
        have H1 : (some false) = some r := by rw [if_pos rfl] at H; exact H
        clear H
        have H := H1
        clear H1
        obtain rfl := Option.some.inj H
        go_wp2
        go_ret
        exact ⟨by first | rfl | (simp [errW_none, errW_some] <;> rfl) | (simp [*, errW_none, errW_some] <;> rfl), by repeat (first | (with_reducible first | exact HB.out | apply below_alloc | apply pw_below_drewN | apply below_drew1) | exact HB.out)⟩
      · replace c7 := Bool.eq_false_iff.mpr c7
        subst c7
        have H1 : ((addr_ParsePrefix.f kj3 a0).bind fun bt131 => ((addr_FormatPrefix.f kj3 bt131.1 bt131.2.1).bind fun bt135 => (if bt131.2.2 = 0 then (if bt135.2 = 0 then (weftlaw1_again.j1 kj3 a0 (bt135.1.toList != a0.toList)) else (weftlaw1_again.j1 kj3 a0 true)) else (weftlaw1_again.j1 kj3 a0 false)))) = some r := by rw [if_neg (show ¬ (false = true) by decide)] at H; exact H
        clear H
        have H := H1
        clear H1
        replace H := Option.bind_eq_some_iff.mp H
        obtain ⟨⟨t131, t132, t133⟩, A80, H⟩ := H
        replace H : ((addr_FormatPrefix.f kj3 t131 t132).bind fun bt135 => (if t133 = 0 then (if bt135.2 = 0 then (weftlaw1_again.j1 kj3 a0 (bt135.1.toList != a0.toList)) else (weftlaw1_again.j1 kj3 a0 true)) else (weftlaw1_again.j1 kj3 a0 false))) = some r := H
        have A8 := Aside0.mk A80
        clear A80
        replace H := Option.bind_eq_some_iff.mp H
        obtain ⟨⟨t135, t136⟩, A90, H⟩ := H
        replace H : (if t133 = 0 then (if t136 = 0 then (weftlaw1_again.j1 kj3 a0 (t135.toList != a0.toList)) else (weftlaw1_again.j1 kj3 a0 true)) else (weftlaw1_again.j1 kj3 a0 false)) = some r := H
        have A9 := Aside0.mk A90
        clear A90
        have HC10 := Aside0.mk H
        clear H
        go_upto_region 7 with (first | ((with_reducible refine gate_callee (f := 20) rfl ?_); refine goesL_ (some 28) rfl rfl Try.func20 (by kernel_rfl) rfl #[.string a0] rfl (by (try simp only [List.map_toArray, List.map_cons, List.map_nil]); first | done | rfl | (simp only [List.length_drop, List.length_take]; rfl)) ?_; (with_reducible refine (addr_ParsePrefix.calls kj3 a0 t131 t132 t133 _ A8.out).mono ?_); rintro e w11 ⟨rfl, hb⟩; refine ⟨_, rfl, ?_⟩; have n0_ := Aside0.mk (below_step (by repeat (first | (with_reducible first | exact HB.out | apply below_alloc | apply pw_below_drewN | apply below_drew1) | exact HB.out)) hb); clear HB; have HB := n0_; clear n0_; (try clear hb); (try clear hb2); (try clear hk); (try clear hi)) | ((with_reducible refine gate_dst (N := 6) rfl ?_); refine box_event ?hg (N := 6) ?hd (cs := #[.int .u32 0, .int .i64 0]) (t := 32) ?hr ?_; (case hd => rfl); (case hg => rfl); (case hr => first | (go_simp; done) | (go_simp; rfl)); intro gb134 hg w12 hbox hb; have n0_ := Aside0.mk (below_step (by repeat (first | (with_reducible first | exact HB.out | apply below_alloc | apply pw_below_drewN | apply below_drew1) | exact HB.out)) hb); have n1_ := Aside0.mk (hbox); have n2_ := Aside0.mk ((by rw [hg]; exact (below_size (by repeat (first | (with_reducible first | exact HB.out | apply below_alloc | apply pw_below_drewN | apply below_drew1) | exact HB.out))) : w.heap.size ≤ gb134)); have n3_ := Aside0.mk ((by rw [hg]; exact (below_size (by repeat (first | (with_reducible first | exact HB.out | apply below_alloc | apply pw_below_drewN | apply below_drew1) | exact HB.out))) : w.heap.size ≤ gb134)); clear HB; have HB := n0_; have BK134 := n1_; have GW134 := n2_; have GE134 := n3_; clear n0_ n1_ n2_ n3_; clear hb hbox hg; have hcz13_0 : w12.cell? ⟨gb134, 0, none⟩ = some (.int .u32 0) := (blk_cell BK134.out 0).trans rfl; have hcz13_1 : w12.cell? ⟨gb134, 1, none⟩ = some (.int .i64 0) := (blk_cell BK134.out 1).trans rfl; have hfz13_0 := blk_frozen BK134.out 0; have hfz13_1 := blk_frozen BK134.out 1) | ((with_reducible refine gate_callee (f := 19) rfl ?_); refine goesL_ (some 33) rfl rfl Try.func19 (by kernel_rfl) rfl #[.agg #[.int .u32 t131, .int .i64 t132]] rfl (by (try simp only [List.map_toArray, List.map_cons, List.map_nil]); first | done | rfl | (simp only [List.length_drop, List.length_take]; rfl)) ?_; (with_reducible refine (addr_FormatPrefix.calls kj3 t131 t132 t135 t136 _ A9.out).mono ?_); rintro e w14 ⟨rfl, hb⟩; refine ⟨_, rfl, ?_⟩; have n0_ := Aside0.mk (blk_below (g := gb134) (o := .cells #[.int .u32 t131, .int .i64 t132] 32 (0, 0)) (by (with_reducible repeat (first | refine blk_drewN ?_ _ | refine blk_drew ?_ | refine blk_alloc ?_ _)); refine blk_put (cs := #[.int .u32 t131, .int .i64 0]) ?_ 1 _ rfl; (with_reducible repeat (first | refine blk_drewN ?_ _ | refine blk_drew ?_ | refine blk_alloc ?_ _)); refine blk_put (cs := #[.int .u32 0, .int .i64 0]) ?_ 0 _ rfl; (with_reducible repeat (first | refine blk_drewN ?_ _ | refine blk_drew ?_ | refine blk_alloc ?_ _)); exact BK134.out) hb); have n1_ := Aside0.mk (below_step (by repeat (first | (with_reducible first | exact HB.out | apply below_alloc | apply pw_below_drewN | apply below_drew1 | refine below_set ?_ GE134.out) | exact HB.out)) hb); clear BK134; clear HB; have BK134 := n0_; have HB := n1_; clear n0_ n1_; (try clear hb); (try clear hb2); (try clear hk); (try clear hi)))
        (try simp only [Act.put, List.setIfInBounds_toArray, List.set_cons_zero, List.set_cons_succ])
        go_cut [46] (fun v46 wc => ∃ (kq : Nat) (x46_9 : Bool), v46 = .bool x46_9 ∧ Aside0 (weftlaw1_again.j1 kq a0 x46_9 = some r) ∧ Aside0 (kq ≤ kj3) ∧ Aside0 (wc.heap[gb134]? = some (.cells #[.int .u32 t131, .int .i64 t132] 32 (0, 0))) ∧ Aside0 (Below w.heap.size w wc))
        case first =>
          have H := HC10.out
          clear HC10
          by_cases c15 : t133 = 0
          · rw [if_pos c15] at H
            have c15b0 : (t133 == 0) = true := beq_iff_eq.mpr c15
            have c15b1 : (t133 != 0) = false := bne_eq_false_iff_eq.mpr c15
            clear c15
            (first | rw [c15b0] | (simp only [i64_w, i32_w]; rw [c15b0]) | skip)
            by_cases c16 : t136 = 0
            · rw [if_pos c16] at H
              have c16b0 : (t136 == 0) = true := beq_iff_eq.mpr c16
              have c16b1 : (t136 != 0) = false := bne_eq_false_iff_eq.mpr c16
              clear c16
              have H' := Aside0.mk H
              clear H
              go_wp2
              go_meet
              case rel => exact ⟨_, ((t135.toList != a0.toList)), (by first | rfl | (simp; done) | (simp [*]; done)), H', ⟨by have := HJ3.out; first | omega | exact Nat.le_refl _⟩, ⟨by (with_reducible repeat (first | refine blk_drewN ?_ _ | refine blk_drew ?_ | refine blk_alloc ?_ _)); exact BK134.out⟩, ⟨by repeat (first | (with_reducible first | exact HB.out | apply below_alloc | apply pw_below_drewN | apply below_drew1 | refine below_set ?_ GE134.out) | exact HB.out)⟩⟩
            · rw [if_neg c16] at H
              have c16b0 : (t136 == 0) = false := beq_eq_false_iff_ne.mpr c16
              have c16b1 : (t136 != 0) = true := bne_iff_ne.mpr c16
              have H' := Aside0.mk H
              clear H
              go_wp2
              go_meet
              case rel => exact ⟨_, (true), (by first | rfl | (simp; done) | (simp [*]; done)), H', ⟨by have := HJ3.out; first | omega | exact Nat.le_refl _⟩, ⟨by (with_reducible repeat (first | refine blk_drewN ?_ _ | refine blk_drew ?_ | refine blk_alloc ?_ _)); exact BK134.out⟩, ⟨by repeat (first | (with_reducible first | exact HB.out | apply below_alloc | apply pw_below_drewN | apply below_drew1 | refine below_set ?_ GE134.out) | exact HB.out)⟩⟩
          · rw [if_neg c15] at H
            have c15b0 : (t133 == 0) = false := beq_eq_false_iff_ne.mpr c15
            have c15b1 : (t133 != 0) = true := bne_iff_ne.mpr c15
            (first | rw [c15b0] | (simp only [i64_w, i32_w]; rw [c15b0]) | skip)
            have H' := Aside0.mk H
            clear H
            go_wp2
            go_meet
            case rel => exact ⟨_, (false), (by first | rfl | (simp; done) | (simp [*]; done)), H', ⟨by have := HJ3.out; first | omega | exact Nat.le_refl _⟩, ⟨by (with_reducible repeat (first | refine blk_drewN ?_ _ | refine blk_drew ?_ | refine blk_alloc ?_ _)); exact BK134.out⟩, ⟨by repeat (first | (with_reducible first | exact HB.out | apply below_alloc | apply pw_below_drewN | apply below_drew1 | refine below_set ?_ GE134.out) | exact HB.out)⟩⟩
        case rest =>
          clear HC10
          try clear c1
          try clear c2
          try clear p2
          try clear c6
          try clear c6b0
          try clear c6b1
          try clear c7
          try clear c15
          try clear c15b0
          try clear c15b1
          try clear c16
          try clear c16b0
          try clear c16b1
          try clear hcz13_0
          try clear hcz13_1
          try clear hfz13_0
          try clear hfz13_1
          try clear p2
          obtain ⟨kq, x46_9, rfl, HA, HJ9, BK134, HB⟩ := hcut
          cases kq with
          | zero => exact absurd HA.out (by simp [weftlaw1_again.j1])
          | succ kj9 =>
            have H := HA.out
            clear HA
            simp only [weftlaw1_again.j1] at H
            by_cases c17 : x46_9 = true
            · subst c17
              have H1 : (some false) = some r := by rw [if_pos rfl] at H; exact H
              clear H
              have H := H1
              clear H1
              obtain rfl := Option.some.inj H
              go_wp2
              go_ret
              exact ⟨by first | rfl | (simp [errW_none, errW_some] <;> rfl) | (simp [*, errW_none, errW_some] <;> rfl), by repeat (first | (with_reducible first | exact HB.out | apply below_alloc | apply pw_below_drewN | apply below_drew1 | refine below_set ?_ GE134.out) | exact HB.out)⟩
            · replace c17 := Bool.eq_false_iff.mpr c17
              subst c17
              have H1 : ((addr_ParseMAC.f a0).bind fun bt137 => (if bt137.2.2.2.2.2.2 = 0 then ((addr_FormatMAC.f bt137.1 bt137.2.1 bt137.2.2.1 bt137.2.2.2.1 bt137.2.2.2.2.1 bt137.2.2.2.2.2.1).bind fun t145 => (if (t145.size : Int) = (a0.size : Int) then (weftlaw1_again.l0 kj9 a0 t145 0) else (some false))) else (some true))) = some r := by rw [if_neg (show ¬ (false = true) by decide)] at H; exact H
              clear H
              have H := H1
              clear H1
              replace H := Option.bind_eq_some_iff.mp H
              obtain ⟨⟨t137, t138, t139, t140, t141, t142, t143⟩, A180, H⟩ := H
              replace H : (if t143 = 0 then ((addr_FormatMAC.f t137 t138 t139 t140 t141 t142).bind fun t145 => (if (t145.size : Int) = (a0.size : Int) then (weftlaw1_again.l0 kj9 a0 t145 0) else (some false))) else (some true)) = some r := H
              have A18 := Aside0.mk A180
              clear A180
              by_cases c19 : t143 = 0
              · rw [if_pos c19] at H
                have c19b0 : (t143 == 0) = true := beq_iff_eq.mpr c19
                have c19b1 : (t143 != 0) = false := bne_eq_false_iff_eq.mpr c19
                clear c19
                replace H := Option.bind_eq_some_iff.mp H
                obtain ⟨t145, A200, H⟩ := H
                replace H : (if (t145.size : Int) = (a0.size : Int) then (weftlaw1_again.l0 kj9 a0 t145 0) else (some false)) = some r := H
                have A20 := Aside0.mk A200
                clear A200
                by_cases c21 : (t145.size : Int) = (a0.size : Int)
                · rw [if_pos c21] at H
                  have c21b0 : ((t145.size : Int) == (a0.size : Int)) = true := beq_iff_eq.mpr c21
                  have c21b1 : ((t145.size : Int) != (a0.size : Int)) = false := bne_eq_false_iff_eq.mpr c21
                  have c21b2 : (t145.size == a0.size) = true := by first | simpa using c21 | (simp at c21 ⊢; omega)
                  clear c21
                  have H' := Aside0.mk H
                  clear H
                  go_wp2_with (first | ((with_reducible refine gate_callee (f := 18) rfl ?_); refine goesL_ (some 49) rfl rfl Try.func18 (by kernel_rfl) rfl #[.string a0] rfl (by (try simp only [List.map_toArray, List.map_cons, List.map_nil]); first | done | rfl | (simp only [List.length_drop, List.length_take]; rfl)) ?_; (with_reducible refine (addr_ParseMAC.calls a0 t137 t138 t139 t140 t141 t142 t143 _ A18.out).mono ?_); rintro e w22 ⟨rfl, hb⟩; refine ⟨_, rfl, ?_⟩; have n0_ := Aside0.mk (blk_below (g := gb134) (o := .cells #[.int .u32 t131, .int .i64 t132] 32 (0, 0)) (by (with_reducible repeat (first | refine blk_drewN ?_ _ | refine blk_drew ?_ | refine blk_alloc ?_ _)); exact BK134.out) hb); have n1_ := Aside0.mk (below_step (by repeat (first | (with_reducible first | exact HB.out | apply below_alloc | apply pw_below_drewN | apply below_drew1 | refine below_set ?_ GE134.out) | exact HB.out)) hb); clear BK134; clear HB; have BK134 := n0_; have HB := n1_; clear n0_ n1_; (try clear hb); (try clear hb2); (try clear hk); (try clear hi)) | ((with_reducible refine gate_dst (N := 9) rfl ?_); refine box_event ?hg (N := 9) ?hd (cs := #[.int .u8 0, .int .u8 0, .int .u8 0, .int .u8 0, .int .u8 0, .int .u8 0]) (t := 36) ?hr ?_; (case hd => rfl); (case hg => rfl); (case hr => first | (go_simp; done) | (go_simp; rfl)); intro gb144 hg w23 hbox hb; have n0_ := Aside0.mk (blk_below (g := gb134) (o := .cells #[.int .u32 t131, .int .i64 t132] 32 (0, 0)) (by (with_reducible repeat (first | refine blk_drewN ?_ _ | refine blk_drew ?_ | refine blk_alloc ?_ _)); exact BK134.out) hb); have n1_ := Aside0.mk (below_step (by repeat (first | (with_reducible first | exact HB.out | apply below_alloc | apply pw_below_drewN | apply below_drew1 | refine below_set ?_ GE134.out) | exact HB.out)) hb); have n2_ := Aside0.mk (hbox); have n3_ := Aside0.mk ((by rw [hg]; exact (below_size (by repeat (first | (with_reducible first | exact HB.out | apply below_alloc | apply pw_below_drewN | apply below_drew1 | refine below_set ?_ GE134.out) | exact HB.out))) : w.heap.size ≤ gb144)); have n4_ := Aside0.mk ((by rw [hg]; exact (below_size (by repeat (first | (with_reducible first | exact HB.out | apply below_alloc | apply pw_below_drewN | apply below_drew1 | refine below_set ?_ GE134.out) | exact HB.out))) : w.heap.size ≤ gb144)); have n5_ := Aside0.mk ((by rw [hg]; exact Nat.ne_of_lt (blk_lt (g := gb134) (o := .cells #[.int .u32 t131, .int .i64 t132] 32 (0, 0)) (by (with_reducible repeat (first | refine blk_drewN ?_ _ | refine blk_drew ?_ | refine blk_alloc ?_ _)); exact BK134.out)) : gb134 ≠ gb144)); have n6_ := Aside0.mk ((by rw [hg]; exact Nat.ne_of_gt (blk_lt (g := gb134) (o := .cells #[.int .u32 t131, .int .i64 t132] 32 (0, 0)) (by (with_reducible repeat (first | refine blk_drewN ?_ _ | refine blk_drew ?_ | refine blk_alloc ?_ _)); exact BK134.out)) : gb144 ≠ gb134)); clear BK134; clear HB; have BK134 := n0_; have HB := n1_; have BK144 := n2_; have GW144 := n3_; have GE144 := n4_; have NB134_144 := n5_; have NB144_134 := n6_; clear n0_ n1_ n2_ n3_ n4_ n5_ n6_; clear hb hbox hg; have hnb24 := NB144_134.out; have hnc24 := NB134_144.out; have hcz25_0 : w23.cell? ⟨gb144, 0, none⟩ = some (.int .u8 0) := (blk_cell BK144.out 0).trans rfl; have hcz25_1 : w23.cell? ⟨gb144, 1, none⟩ = some (.int .u8 0) := (blk_cell BK144.out 1).trans rfl; have hcz25_2 : w23.cell? ⟨gb144, 2, none⟩ = some (.int .u8 0) := (blk_cell BK144.out 2).trans rfl; have hcz25_3 : w23.cell? ⟨gb144, 3, none⟩ = some (.int .u8 0) := (blk_cell BK144.out 3).trans rfl; have hcz25_4 : w23.cell? ⟨gb144, 4, none⟩ = some (.int .u8 0) := (blk_cell BK144.out 4).trans rfl; have hcz25_5 : w23.cell? ⟨gb144, 5, none⟩ = some (.int .u8 0) := (blk_cell BK144.out 5).trans rfl; have hfz25_0 := blk_frozen BK144.out 0; have hfz25_1 := blk_frozen BK144.out 1; have hfz25_2 := blk_frozen BK144.out 2; have hfz25_3 := blk_frozen BK144.out 3; have hfz25_4 := blk_frozen BK144.out 4; have hfz25_5 := blk_frozen BK144.out 5) | ((with_reducible refine gate_callee (f := 17) rfl ?_); refine goesL_ (some 55) rfl rfl Try.func17 (by kernel_rfl) rfl #[.agg #[.int .u8 t137, .int .u8 t138, .int .u8 t139, .int .u8 t140, .int .u8 t141, .int .u8 t142]] rfl (by (try simp only [List.map_toArray, List.map_cons, List.map_nil]); first | done | rfl | (simp only [List.length_drop, List.length_take]; rfl)) ?_; (with_reducible refine (addr_FormatMAC.calls t137 t138 t139 t140 t141 t142 t145 _ A20.out).mono ?_); rintro e w26 ⟨rfl, hb⟩; refine ⟨_, rfl, ?_⟩; have n0_ := Aside0.mk (blk_below (g := gb134) (o := .cells #[.int .u32 t131, .int .i64 t132] 32 (0, 0)) (by (with_reducible repeat (first | refine blk_drewN ?_ _ | refine blk_drew ?_ | refine blk_alloc ?_ _)); refine blk_far ?_ NB134_144.out _; (with_reducible repeat (first | refine blk_drewN ?_ _ | refine blk_drew ?_ | refine blk_alloc ?_ _)); refine blk_far ?_ NB134_144.out _; (with_reducible repeat (first | refine blk_drewN ?_ _ | refine blk_drew ?_ | refine blk_alloc ?_ _)); refine blk_far ?_ NB134_144.out _; (with_reducible repeat (first | refine blk_drewN ?_ _ | refine blk_drew ?_ | refine blk_alloc ?_ _)); refine blk_far ?_ NB134_144.out _; (with_reducible repeat (first | refine blk_drewN ?_ _ | refine blk_drew ?_ | refine blk_alloc ?_ _)); refine blk_far ?_ NB134_144.out _; (with_reducible repeat (first | refine blk_drewN ?_ _ | refine blk_drew ?_ | refine blk_alloc ?_ _)); refine blk_far ?_ NB134_144.out _; (with_reducible repeat (first | refine blk_drewN ?_ _ | refine blk_drew ?_ | refine blk_alloc ?_ _)); exact BK134.out) hb); have n1_ := Aside0.mk (blk_below (g := gb144) (o := .cells #[.int .u8 t137, .int .u8 t138, .int .u8 t139, .int .u8 t140, .int .u8 t141, .int .u8 t142] 36 (0, 0)) (by (with_reducible repeat (first | refine blk_drewN ?_ _ | refine blk_drew ?_ | refine blk_alloc ?_ _)); refine blk_put (cs := #[.int .u8 t137, .int .u8 t138, .int .u8 t139, .int .u8 t140, .int .u8 t141, .int .u8 0]) ?_ 5 _ rfl; (with_reducible repeat (first | refine blk_drewN ?_ _ | refine blk_drew ?_ | refine blk_alloc ?_ _)); refine blk_put (cs := #[.int .u8 t137, .int .u8 t138, .int .u8 t139, .int .u8 t140, .int .u8 0, .int .u8 0]) ?_ 4 _ rfl; (with_reducible repeat (first | refine blk_drewN ?_ _ | refine blk_drew ?_ | refine blk_alloc ?_ _)); refine blk_put (cs := #[.int .u8 t137, .int .u8 t138, .int .u8 t139, .int .u8 0, .int .u8 0, .int .u8 0]) ?_ 3 _ rfl; (with_reducible repeat (first | refine blk_drewN ?_ _ | refine blk_drew ?_ | refine blk_alloc ?_ _)); refine blk_put (cs := #[.int .u8 t137, .int .u8 t138, .int .u8 0, .int .u8 0, .int .u8 0, .int .u8 0]) ?_ 2 _ rfl; (with_reducible repeat (first | refine blk_drewN ?_ _ | refine blk_drew ?_ | refine blk_alloc ?_ _)); refine blk_put (cs := #[.int .u8 t137, .int .u8 0, .int .u8 0, .int .u8 0, .int .u8 0, .int .u8 0]) ?_ 1 _ rfl; (with_reducible repeat (first | refine blk_drewN ?_ _ | refine blk_drew ?_ | refine blk_alloc ?_ _)); refine blk_put (cs := #[.int .u8 0, .int .u8 0, .int .u8 0, .int .u8 0, .int .u8 0, .int .u8 0]) ?_ 0 _ rfl; (with_reducible repeat (first | refine blk_drewN ?_ _ | refine blk_drew ?_ | refine blk_alloc ?_ _)); exact BK144.out) hb); have n2_ := Aside0.mk (below_step (by repeat (first | (with_reducible first | exact HB.out | apply below_alloc | apply pw_below_drewN | apply below_drew1 | refine below_set ?_ GE134.out | refine below_set ?_ GE144.out) | exact HB.out)) hb); clear BK134; clear BK144; clear HB; have BK134 := n0_; have BK144 := n1_; have HB := n2_; clear n0_ n1_ n2_; (try clear hb); (try clear hb2); (try clear hk); (try clear hi)))
                  go_loopg [10] kj9 (fun kq v10 w' => ∃ (x10_3 : Int), v10 = .int .i64 x10_3 ∧ Aside0 (weftlaw1_again.l0 kq a0 t145 x10_3 = some r) ∧ Aside0 (kq ≤ kj9) ∧ Aside0 (w'.heap[gb134]? = some (.cells #[.int .u32 t131, .int .i64 t132] 32 (0, 0))) ∧ Aside0 (w'.heap[gb144]? = some (.cells #[.int .u8 t137, .int .u8 t138, .int .u8 t139, .int .u8 t140, .int .u8 t141, .int .u8 t142] 36 (0, 0))) ∧ Aside0 (Below w.heap.size w w'))
                  case atStart => exact ⟨(0), (by first | rfl | (simp; done) | (simp [*]; done)), H', ⟨Nat.le_refl _⟩, ⟨by (with_reducible repeat (first | refine blk_drewN ?_ _ | refine blk_drew ?_ | refine blk_alloc ?_ _)); exact BK134.out⟩, ⟨by (with_reducible repeat (first | refine blk_drewN ?_ _ | refine blk_drew ?_ | refine blk_alloc ?_ _)); exact BK144.out⟩, ⟨by repeat (first | (with_reducible first | exact HB.out | apply below_alloc | apply pw_below_drewN | apply below_drew1 | refine below_set ?_ GE134.out | refine below_set ?_ GE144.out) | exact HB.out)⟩⟩
                  case round =>
                    clear H'
                    try clear c1
                    try clear c2
                    try clear p2
                    try clear c6
                    try clear c6b0
                    try clear c6b1
                    try clear c7
                    try clear c15
                    try clear c15b0
                    try clear c15b1
                    try clear c16
                    try clear c16b0
                    try clear c16b1
                    try clear c17
                    try clear c18
                    try clear c19
                    try clear c19b0
                    try clear c19b1
                    try clear c20
                    try clear c21
                    try clear c21b0
                    try clear c21b1
                    try clear c21b2
                    try clear c22
                    try clear c24
                    try clear hcz13_0
                    try clear hcz13_1
                    try clear hcz25_0
                    try clear hcz25_1
                    try clear hcz25_2
                    try clear hcz25_3
                    try clear hcz25_4
                    try clear hcz25_5
                    try clear hfz13_0
                    try clear hfz13_1
                    try clear hfz25_0
                    try clear hfz25_1
                    try clear hfz25_2
                    try clear hfz25_3
                    try clear hfz25_4
                    try clear hfz25_5
                    try clear p2
                    obtain ⟨x10_3, rfl, HA, HK3, BK134, BK144, HB⟩ := hrel
                    cases gk with
                    | zero => exact absurd HA.out (by simp [weftlaw1_again.l0])
                    | succ k3 =>
                      have H := HA.out
                      clear HA
                      simp only [weftlaw1_again.l0] at H
                      by_cases c27 : x10_3 < (a0.size : Int)
                      · rw [if_pos c27] at H
                        have c27b0 : decide (x10_3 < (a0.size : Int)) = true := decide_eq_true c27
                        clear c27
                        by_cases c28 : 0 ≤ x10_3
                        · rw [if_pos c28] at H
                          have c28b0 : decide (0 ≤ x10_3) = true := decide_eq_true c28
                          clear c28
                          have HC30 := Aside0.mk H
                          clear H
                          have p29 : 0 ≤ (x10_3 : Int) := of_decide_eq_true (by first | (with_reducible assumption) | assumption)
                          have q29 : x10_3 < (a0.size : Int) := of_decide_eq_true (by first | (with_reducible assumption) | assumption)
                          have hx29 := bt_at a0 x10_3
                          replace p29 := eq_true p29
                          replace q29 := eq_true q29
                          go_upto_region 19 with (fail)
                          go_cut [75] (fun v75 wc => ∃ (kq : Nat) (x75_29 : Bool), v75 = .bool x75_29 ∧ Aside0 (weftlaw1_again.j3 kq a0 t145 x10_3 (bt a0 x10_3) x75_29 = some r) ∧ Aside0 (kq ≤ k3) ∧ Aside0 (wc.heap[gb134]? = some (.cells #[.int .u32 t131, .int .i64 t132] 32 (0, 0))) ∧ Aside0 (wc.heap[gb144]? = some (.cells #[.int .u8 t137, .int .u8 t138, .int .u8 t139, .int .u8 t140, .int .u8 t141, .int .u8 t142] 36 (0, 0))) ∧ Aside0 (Below w.heap.size w wc))
                          case first =>
                            have H := HC30.out
                            clear HC30
                            by_cases c31 : (bt a0 x10_3) ≥ 65
                            · rw [if_pos c31] at H
                              have c31b0 : decide (65 ≤ (bt a0 x10_3)) = true := decide_eq_true c31
                              clear c31
                              (first | rw [c31b0] | (simp only [i64_w, i32_w]; rw [c31b0]) | skip)
                              have H' := Aside0.mk H
                              clear H
                              go_wp2
                              go_meet
                              case rel => exact ⟨_, (decide ((bt a0 x10_3) ≤ 70)), (by first | rfl | (simp; done) | (simp [*]; done)), H', ⟨by have := HJ3.out; have := HJ9.out; have := HK3.out; first | omega | exact Nat.le_refl _⟩, ⟨by (with_reducible repeat (first | refine blk_drewN ?_ _ | refine blk_drew ?_ | refine blk_alloc ?_ _)); exact BK134.out⟩, ⟨by (with_reducible repeat (first | refine blk_drewN ?_ _ | refine blk_drew ?_ | refine blk_alloc ?_ _)); exact BK144.out⟩, ⟨by repeat (first | (with_reducible first | exact HB.out | apply below_alloc | apply pw_below_drewN | apply below_drew1 | refine below_set ?_ GE134.out | refine below_set ?_ GE144.out) | exact HB.out)⟩⟩
                            · rw [if_neg c31] at H
                              have c31b0 : decide (65 ≤ (bt a0 x10_3)) = false := decide_eq_false c31
                              clear c31
                              (first | rw [c31b0] | (simp only [i64_w, i32_w]; rw [c31b0]) | skip)
                              have H' := Aside0.mk H
                              clear H
                              go_wp2
                              go_meet
                              case rel => exact ⟨_, (false), (by first | rfl | (simp; done) | (simp [*]; done)), H', ⟨by have := HJ3.out; have := HJ9.out; have := HK3.out; first | omega | exact Nat.le_refl _⟩, ⟨by (with_reducible repeat (first | refine blk_drewN ?_ _ | refine blk_drew ?_ | refine blk_alloc ?_ _)); exact BK134.out⟩, ⟨by (with_reducible repeat (first | refine blk_drewN ?_ _ | refine blk_drew ?_ | refine blk_alloc ?_ _)); exact BK144.out⟩, ⟨by repeat (first | (with_reducible first | exact HB.out | apply below_alloc | apply pw_below_drewN | apply below_drew1 | refine below_set ?_ GE134.out | refine below_set ?_ GE144.out) | exact HB.out)⟩⟩
                          case rest =>
                            clear HC30
                            try clear c1
                            try clear c2
                            try clear p2
                            try clear q2
                            try clear hx2
                            try clear c3
                            try clear c6
                            try clear c6b0
                            try clear c6b1
                            try clear c7
                            try clear c15
                            try clear c15b0
                            try clear c15b1
                            try clear c16
                            try clear c16b0
                            try clear c16b1
                            try clear c17
                            try clear c18
                            try clear c19
                            try clear c19b0
                            try clear c19b1
                            try clear c20
                            try clear c21
                            try clear c21b0
                            try clear c21b1
                            try clear c21b2
                            try clear c22
                            try clear c24
                            try clear c27
                            try clear c27b0
                            try clear c28
                            try clear c28b0
                            try clear p29
                            try clear q29
                            try clear hx29
                            try clear c31
                            try clear c31b0
                            try clear hcz13_0
                            try clear hcz13_1
                            try clear hcz25_0
                            try clear hcz25_1
                            try clear hcz25_2
                            try clear hcz25_3
                            try clear hcz25_4
                            try clear hcz25_5
                            try clear hfz13_0
                            try clear hfz13_1
                            try clear hfz25_0
                            try clear hfz25_1
                            try clear hfz25_2
                            try clear hfz25_3
                            try clear hfz25_4
                            try clear hfz25_5
                            try clear p2
                            try clear p29
                            try clear q29
                            obtain ⟨kq, x75_29, rfl, HA, HJ29, BK134, BK144, HB⟩ := hcut
                            cases kq with
                            | zero => exact absurd HA.out (by simp [weftlaw1_again.j3])
                            | succ kj29 =>
                              have H := HA.out
                              clear HA
                              simp only [weftlaw1_again.j3] at H
                              by_cases c32 : x75_29 = true
                              · subst c32
                                have H1 : (if 0 ≤ x10_3 then (if x10_3 < (t145.size : Int) then (if (((bt a0 x10_3) + 32) % 256) = (bt t145 x10_3) then (weftlaw1_again.l0 kj29 a0 t145 (wrap64 (x10_3 + 1))) else (some false)) else (none)) else (none)) = some r := by rw [if_pos rfl] at H; exact H
                                clear H
                                have H := H1
                                clear H1
                                by_cases c33 : 0 ≤ x10_3
                                · rw [if_pos c33] at H
                                  have c33b0 : decide (0 ≤ x10_3) = true := decide_eq_true c33
                                  clear c33
                                  by_cases c34 : x10_3 < (t145.size : Int)
                                  · rw [if_pos c34] at H
                                    have c34b0 : decide (x10_3 < (t145.size : Int)) = true := decide_eq_true c34
                                    clear c34
                                    by_cases c36 : (((bt a0 x10_3) + 32) % 256) = (bt t145 x10_3)
                                    · rw [if_pos c36] at H
                                      have c36b0 : ((((bt a0 x10_3) + 32) % 256) == (bt t145 x10_3)) = true := beq_iff_eq.mpr c36
                                      have c36b1 : ((((bt a0 x10_3) + 32) % 256) != (bt t145 x10_3)) = false := bne_eq_false_iff_eq.mpr c36
                                      clear c36
                                      have H' := Aside0.mk H
                                      clear H
                                      have p35 : 0 ≤ (x10_3 : Int) := of_decide_eq_true (by first | (with_reducible assumption) | assumption)
                                      have q35 : x10_3 < (t145.size : Int) := of_decide_eq_true (by first | (with_reducible assumption) | assumption)
                                      have hx35 := bt_at t145 x10_3
                                      replace p35 := eq_true p35
                                      replace q35 := eq_true q35
                                      go_wp2
                                      go_roundg kj29
                                      case measure => have := HJ3.out; have := HJ9.out; have := HK3.out; have := HJ29.out; omega
                                      case rel => exact ⟨(wrap64 (x10_3 + 1)), (by first | rfl | (simp; done) | (simp [*]; done)), H', ⟨by have := HJ3.out; have := HJ9.out; have := HK3.out; have := HJ29.out; omega⟩, ⟨by (with_reducible repeat (first | refine blk_drewN ?_ _ | refine blk_drew ?_ | refine blk_alloc ?_ _)); exact BK134.out⟩, ⟨by (with_reducible repeat (first | refine blk_drewN ?_ _ | refine blk_drew ?_ | refine blk_alloc ?_ _)); exact BK144.out⟩, ⟨by repeat (first | (with_reducible first | exact HB.out | apply below_alloc | apply pw_below_drewN | apply below_drew1 | refine below_set ?_ GE134.out | refine below_set ?_ GE144.out) | exact HB.out)⟩⟩
                                    · rw [if_neg c36] at H
                                      have c36b0 : ((((bt a0 x10_3) + 32) % 256) == (bt t145 x10_3)) = false := beq_eq_false_iff_ne.mpr c36
                                      have c36b1 : ((((bt a0 x10_3) + 32) % 256) != (bt t145 x10_3)) = true := bne_iff_ne.mpr c36
                                      obtain rfl := Option.some.inj H
                                      have p35 : 0 ≤ (x10_3 : Int) := of_decide_eq_true (by first | (with_reducible assumption) | assumption)
                                      have q35 : x10_3 < (t145.size : Int) := of_decide_eq_true (by first | (with_reducible assumption) | assumption)
                                      have hx35 := bt_at t145 x10_3
                                      replace p35 := eq_true p35
                                      replace q35 := eq_true q35
                                      go_wp2
                                      go_ret
                                      exact ⟨by first | rfl | (simp [errW_none, errW_some] <;> rfl) | (simp [*, errW_none, errW_some] <;> rfl), by repeat (first | (with_reducible first | exact HB.out | apply below_alloc | apply pw_below_drewN | apply below_drew1 | refine below_set ?_ GE134.out | refine below_set ?_ GE144.out) | exact HB.out)⟩
                                  · rw [if_neg c34] at H
                                    exact absurd H (by simp)
                                · rw [if_neg c33] at H
                                  exact absurd H (by simp)
                              · replace c32 := Bool.eq_false_iff.mpr c32
                                subst c32
                                have H1 : (if 0 ≤ x10_3 then (if x10_3 < (t145.size : Int) then (if (bt a0 x10_3) = (bt t145 x10_3) then (weftlaw1_again.l0 kj29 a0 t145 (wrap64 (x10_3 + 1))) else (some false)) else (none)) else (none)) = some r := by rw [if_neg (show ¬ (false = true) by decide)] at H; exact H
                                clear H
                                have H := H1
                                clear H1
                                by_cases c37 : 0 ≤ x10_3
                                · rw [if_pos c37] at H
                                  have c37b0 : decide (0 ≤ x10_3) = true := decide_eq_true c37
                                  clear c37
                                  by_cases c38 : x10_3 < (t145.size : Int)
                                  · rw [if_pos c38] at H
                                    have c38b0 : decide (x10_3 < (t145.size : Int)) = true := decide_eq_true c38
                                    clear c38
                                    by_cases c40 : (bt a0 x10_3) = (bt t145 x10_3)
                                    · rw [if_pos c40] at H
                                      have c40b0 : ((bt a0 x10_3) == (bt t145 x10_3)) = true := beq_iff_eq.mpr c40
                                      have c40b1 : ((bt a0 x10_3) != (bt t145 x10_3)) = false := bne_eq_false_iff_eq.mpr c40
                                      clear c40
                                      have H' := Aside0.mk H
                                      clear H
                                      have p39 : 0 ≤ (x10_3 : Int) := of_decide_eq_true (by first | (with_reducible assumption) | assumption)
                                      have q39 : x10_3 < (t145.size : Int) := of_decide_eq_true (by first | (with_reducible assumption) | assumption)
                                      have hx39 := bt_at t145 x10_3
                                      replace p39 := eq_true p39
                                      replace q39 := eq_true q39
                                      go_wp2
                                      go_roundg kj29
                                      case measure => have := HJ3.out; have := HJ9.out; have := HK3.out; have := HJ29.out; omega
                                      case rel => exact ⟨(wrap64 (x10_3 + 1)), (by first | rfl | (simp; done) | (simp [*]; done)), H', ⟨by have := HJ3.out; have := HJ9.out; have := HK3.out; have := HJ29.out; omega⟩, ⟨by (with_reducible repeat (first | refine blk_drewN ?_ _ | refine blk_drew ?_ | refine blk_alloc ?_ _)); exact BK134.out⟩, ⟨by (with_reducible repeat (first | refine blk_drewN ?_ _ | refine blk_drew ?_ | refine blk_alloc ?_ _)); exact BK144.out⟩, ⟨by repeat (first | (with_reducible first | exact HB.out | apply below_alloc | apply pw_below_drewN | apply below_drew1 | refine below_set ?_ GE134.out | refine below_set ?_ GE144.out) | exact HB.out)⟩⟩
                                    · rw [if_neg c40] at H
                                      have c40b0 : ((bt a0 x10_3) == (bt t145 x10_3)) = false := beq_eq_false_iff_ne.mpr c40
                                      have c40b1 : ((bt a0 x10_3) != (bt t145 x10_3)) = true := bne_iff_ne.mpr c40
                                      obtain rfl := Option.some.inj H
                                      have p39 : 0 ≤ (x10_3 : Int) := of_decide_eq_true (by first | (with_reducible assumption) | assumption)
                                      have q39 : x10_3 < (t145.size : Int) := of_decide_eq_true (by first | (with_reducible assumption) | assumption)
                                      have hx39 := bt_at t145 x10_3
                                      replace p39 := eq_true p39
                                      replace q39 := eq_true q39
                                      go_wp2
                                      go_ret
                                      exact ⟨by first | rfl | (simp [errW_none, errW_some] <;> rfl) | (simp [*, errW_none, errW_some] <;> rfl), by repeat (first | (with_reducible first | exact HB.out | apply below_alloc | apply pw_below_drewN | apply below_drew1 | refine below_set ?_ GE134.out | refine below_set ?_ GE144.out) | exact HB.out)⟩
                                  · rw [if_neg c38] at H
                                    exact absurd H (by simp)
                                · rw [if_neg c37] at H
                                  exact absurd H (by simp)
                        · rw [if_neg c28] at H
                          exact absurd H (by simp)
                      · rw [if_neg c27] at H
                        have c27b0 : decide (x10_3 < (a0.size : Int)) = false := decide_eq_false c27
                        clear c27
                        obtain rfl := Option.some.inj H
                        go_wp2
                        go_ret
                        exact ⟨by first | rfl | (simp [errW_none, errW_some] <;> rfl) | (simp [*, errW_none, errW_some] <;> rfl), by repeat (first | (with_reducible first | exact HB.out | apply below_alloc | apply pw_below_drewN | apply below_drew1 | refine below_set ?_ GE134.out | refine below_set ?_ GE144.out) | exact HB.out)⟩
                · rw [if_neg c21] at H
                  have c21b0 : ((t145.size : Int) == (a0.size : Int)) = false := beq_eq_false_iff_ne.mpr c21
                  have c21b1 : ((t145.size : Int) != (a0.size : Int)) = true := bne_iff_ne.mpr c21
                  have c21b2 : (t145.size == a0.size) = false := by first | simpa using c21 | (simp at c21 ⊢; omega)
                  obtain rfl := Option.some.inj H
                  go_wp2_with (first | ((with_reducible refine gate_callee (f := 18) rfl ?_); refine goesL_ (some 49) rfl rfl Try.func18 (by kernel_rfl) rfl #[.string a0] rfl (by (try simp only [List.map_toArray, List.map_cons, List.map_nil]); first | done | rfl | (simp only [List.length_drop, List.length_take]; rfl)) ?_; (with_reducible refine (addr_ParseMAC.calls a0 t137 t138 t139 t140 t141 t142 t143 _ A18.out).mono ?_); rintro e w41 ⟨rfl, hb⟩; refine ⟨_, rfl, ?_⟩; have n0_ := Aside0.mk (blk_below (g := gb134) (o := .cells #[.int .u32 t131, .int .i64 t132] 32 (0, 0)) (by (with_reducible repeat (first | refine blk_drewN ?_ _ | refine blk_drew ?_ | refine blk_alloc ?_ _)); exact BK134.out) hb); have n1_ := Aside0.mk (below_step (by repeat (first | (with_reducible first | exact HB.out | apply below_alloc | apply pw_below_drewN | apply below_drew1 | refine below_set ?_ GE134.out) | exact HB.out)) hb); clear BK134; clear HB; have BK134 := n0_; have HB := n1_; clear n0_ n1_; (try clear hb); (try clear hb2); (try clear hk); (try clear hi)) | ((with_reducible refine gate_dst (N := 9) rfl ?_); refine box_event ?hg (N := 9) ?hd (cs := #[.int .u8 0, .int .u8 0, .int .u8 0, .int .u8 0, .int .u8 0, .int .u8 0]) (t := 36) ?hr ?_; (case hd => rfl); (case hg => rfl); (case hr => first | (go_simp; done) | (go_simp; rfl)); intro gb144 hg w42 hbox hb; have n0_ := Aside0.mk (blk_below (g := gb134) (o := .cells #[.int .u32 t131, .int .i64 t132] 32 (0, 0)) (by (with_reducible repeat (first | refine blk_drewN ?_ _ | refine blk_drew ?_ | refine blk_alloc ?_ _)); exact BK134.out) hb); have n1_ := Aside0.mk (below_step (by repeat (first | (with_reducible first | exact HB.out | apply below_alloc | apply pw_below_drewN | apply below_drew1 | refine below_set ?_ GE134.out) | exact HB.out)) hb); have n2_ := Aside0.mk (hbox); have n3_ := Aside0.mk ((by rw [hg]; exact (below_size (by repeat (first | (with_reducible first | exact HB.out | apply below_alloc | apply pw_below_drewN | apply below_drew1 | refine below_set ?_ GE134.out) | exact HB.out))) : w.heap.size ≤ gb144)); have n4_ := Aside0.mk ((by rw [hg]; exact (below_size (by repeat (first | (with_reducible first | exact HB.out | apply below_alloc | apply pw_below_drewN | apply below_drew1 | refine below_set ?_ GE134.out) | exact HB.out))) : w.heap.size ≤ gb144)); have n5_ := Aside0.mk ((by rw [hg]; exact Nat.ne_of_lt (blk_lt (g := gb134) (o := .cells #[.int .u32 t131, .int .i64 t132] 32 (0, 0)) (by (with_reducible repeat (first | refine blk_drewN ?_ _ | refine blk_drew ?_ | refine blk_alloc ?_ _)); exact BK134.out)) : gb134 ≠ gb144)); have n6_ := Aside0.mk ((by rw [hg]; exact Nat.ne_of_gt (blk_lt (g := gb134) (o := .cells #[.int .u32 t131, .int .i64 t132] 32 (0, 0)) (by (with_reducible repeat (first | refine blk_drewN ?_ _ | refine blk_drew ?_ | refine blk_alloc ?_ _)); exact BK134.out)) : gb144 ≠ gb134)); clear BK134; clear HB; have BK134 := n0_; have HB := n1_; have BK144 := n2_; have GW144 := n3_; have GE144 := n4_; have NB134_144 := n5_; have NB144_134 := n6_; clear n0_ n1_ n2_ n3_ n4_ n5_ n6_; clear hb hbox hg; have hnb43 := NB144_134.out; have hnc43 := NB134_144.out; have hcz44_0 : w42.cell? ⟨gb144, 0, none⟩ = some (.int .u8 0) := (blk_cell BK144.out 0).trans rfl; have hcz44_1 : w42.cell? ⟨gb144, 1, none⟩ = some (.int .u8 0) := (blk_cell BK144.out 1).trans rfl; have hcz44_2 : w42.cell? ⟨gb144, 2, none⟩ = some (.int .u8 0) := (blk_cell BK144.out 2).trans rfl; have hcz44_3 : w42.cell? ⟨gb144, 3, none⟩ = some (.int .u8 0) := (blk_cell BK144.out 3).trans rfl; have hcz44_4 : w42.cell? ⟨gb144, 4, none⟩ = some (.int .u8 0) := (blk_cell BK144.out 4).trans rfl; have hcz44_5 : w42.cell? ⟨gb144, 5, none⟩ = some (.int .u8 0) := (blk_cell BK144.out 5).trans rfl; have hfz44_0 := blk_frozen BK144.out 0; have hfz44_1 := blk_frozen BK144.out 1; have hfz44_2 := blk_frozen BK144.out 2; have hfz44_3 := blk_frozen BK144.out 3; have hfz44_4 := blk_frozen BK144.out 4; have hfz44_5 := blk_frozen BK144.out 5) | ((with_reducible refine gate_callee (f := 17) rfl ?_); refine goesL_ (some 55) rfl rfl Try.func17 (by kernel_rfl) rfl #[.agg #[.int .u8 t137, .int .u8 t138, .int .u8 t139, .int .u8 t140, .int .u8 t141, .int .u8 t142]] rfl (by (try simp only [List.map_toArray, List.map_cons, List.map_nil]); first | done | rfl | (simp only [List.length_drop, List.length_take]; rfl)) ?_; (with_reducible refine (addr_FormatMAC.calls t137 t138 t139 t140 t141 t142 t145 _ A20.out).mono ?_); rintro e w45 ⟨rfl, hb⟩; refine ⟨_, rfl, ?_⟩; have n0_ := Aside0.mk (blk_below (g := gb134) (o := .cells #[.int .u32 t131, .int .i64 t132] 32 (0, 0)) (by (with_reducible repeat (first | refine blk_drewN ?_ _ | refine blk_drew ?_ | refine blk_alloc ?_ _)); refine blk_far ?_ NB134_144.out _; (with_reducible repeat (first | refine blk_drewN ?_ _ | refine blk_drew ?_ | refine blk_alloc ?_ _)); refine blk_far ?_ NB134_144.out _; (with_reducible repeat (first | refine blk_drewN ?_ _ | refine blk_drew ?_ | refine blk_alloc ?_ _)); refine blk_far ?_ NB134_144.out _; (with_reducible repeat (first | refine blk_drewN ?_ _ | refine blk_drew ?_ | refine blk_alloc ?_ _)); refine blk_far ?_ NB134_144.out _; (with_reducible repeat (first | refine blk_drewN ?_ _ | refine blk_drew ?_ | refine blk_alloc ?_ _)); refine blk_far ?_ NB134_144.out _; (with_reducible repeat (first | refine blk_drewN ?_ _ | refine blk_drew ?_ | refine blk_alloc ?_ _)); refine blk_far ?_ NB134_144.out _; (with_reducible repeat (first | refine blk_drewN ?_ _ | refine blk_drew ?_ | refine blk_alloc ?_ _)); exact BK134.out) hb); have n1_ := Aside0.mk (blk_below (g := gb144) (o := .cells #[.int .u8 t137, .int .u8 t138, .int .u8 t139, .int .u8 t140, .int .u8 t141, .int .u8 t142] 36 (0, 0)) (by (with_reducible repeat (first | refine blk_drewN ?_ _ | refine blk_drew ?_ | refine blk_alloc ?_ _)); refine blk_put (cs := #[.int .u8 t137, .int .u8 t138, .int .u8 t139, .int .u8 t140, .int .u8 t141, .int .u8 0]) ?_ 5 _ rfl; (with_reducible repeat (first | refine blk_drewN ?_ _ | refine blk_drew ?_ | refine blk_alloc ?_ _)); refine blk_put (cs := #[.int .u8 t137, .int .u8 t138, .int .u8 t139, .int .u8 t140, .int .u8 0, .int .u8 0]) ?_ 4 _ rfl; (with_reducible repeat (first | refine blk_drewN ?_ _ | refine blk_drew ?_ | refine blk_alloc ?_ _)); refine blk_put (cs := #[.int .u8 t137, .int .u8 t138, .int .u8 t139, .int .u8 0, .int .u8 0, .int .u8 0]) ?_ 3 _ rfl; (with_reducible repeat (first | refine blk_drewN ?_ _ | refine blk_drew ?_ | refine blk_alloc ?_ _)); refine blk_put (cs := #[.int .u8 t137, .int .u8 t138, .int .u8 0, .int .u8 0, .int .u8 0, .int .u8 0]) ?_ 2 _ rfl; (with_reducible repeat (first | refine blk_drewN ?_ _ | refine blk_drew ?_ | refine blk_alloc ?_ _)); refine blk_put (cs := #[.int .u8 t137, .int .u8 0, .int .u8 0, .int .u8 0, .int .u8 0, .int .u8 0]) ?_ 1 _ rfl; (with_reducible repeat (first | refine blk_drewN ?_ _ | refine blk_drew ?_ | refine blk_alloc ?_ _)); refine blk_put (cs := #[.int .u8 0, .int .u8 0, .int .u8 0, .int .u8 0, .int .u8 0, .int .u8 0]) ?_ 0 _ rfl; (with_reducible repeat (first | refine blk_drewN ?_ _ | refine blk_drew ?_ | refine blk_alloc ?_ _)); exact BK144.out) hb); have n2_ := Aside0.mk (below_step (by repeat (first | (with_reducible first | exact HB.out | apply below_alloc | apply pw_below_drewN | apply below_drew1 | refine below_set ?_ GE134.out | refine below_set ?_ GE144.out) | exact HB.out)) hb); clear BK134; clear BK144; clear HB; have BK134 := n0_; have BK144 := n1_; have HB := n2_; clear n0_ n1_ n2_; (try clear hb); (try clear hb2); (try clear hk); (try clear hi)))
                  go_ret
                  exact ⟨by first | rfl | (simp [errW_none, errW_some] <;> rfl) | (simp [*, errW_none, errW_some] <;> rfl), by repeat (first | (with_reducible first | exact HB.out | apply below_alloc | apply pw_below_drewN | apply below_drew1 | refine below_set ?_ GE134.out | refine below_set ?_ GE144.out) | exact HB.out)⟩
              · rw [if_neg c19] at H
                have c19b0 : (t143 == 0) = false := beq_eq_false_iff_ne.mpr c19
                have c19b1 : (t143 != 0) = true := bne_iff_ne.mpr c19
                obtain rfl := Option.some.inj H
                go_wp2_with (first | ((with_reducible refine gate_callee (f := 18) rfl ?_); refine goesL_ (some 49) rfl rfl Try.func18 (by kernel_rfl) rfl #[.string a0] rfl (by (try simp only [List.map_toArray, List.map_cons, List.map_nil]); first | done | rfl | (simp only [List.length_drop, List.length_take]; rfl)) ?_; (with_reducible refine (addr_ParseMAC.calls a0 t137 t138 t139 t140 t141 t142 t143 _ A18.out).mono ?_); rintro e w46 ⟨rfl, hb⟩; refine ⟨_, rfl, ?_⟩; have n0_ := Aside0.mk (blk_below (g := gb134) (o := .cells #[.int .u32 t131, .int .i64 t132] 32 (0, 0)) (by (with_reducible repeat (first | refine blk_drewN ?_ _ | refine blk_drew ?_ | refine blk_alloc ?_ _)); exact BK134.out) hb); have n1_ := Aside0.mk (below_step (by repeat (first | (with_reducible first | exact HB.out | apply below_alloc | apply pw_below_drewN | apply below_drew1 | refine below_set ?_ GE134.out) | exact HB.out)) hb); clear BK134; clear HB; have BK134 := n0_; have HB := n1_; clear n0_ n1_; (try clear hb); (try clear hb2); (try clear hk); (try clear hi)) | ((with_reducible refine gate_dst (N := 9) rfl ?_); refine box_event ?hg (N := 9) ?hd (cs := #[.int .u8 0, .int .u8 0, .int .u8 0, .int .u8 0, .int .u8 0, .int .u8 0]) (t := 36) ?hr ?_; (case hd => rfl); (case hg => rfl); (case hr => first | (go_simp; done) | (go_simp; rfl)); intro gb144 hg w47 hbox hb; have n0_ := Aside0.mk (blk_below (g := gb134) (o := .cells #[.int .u32 t131, .int .i64 t132] 32 (0, 0)) (by (with_reducible repeat (first | refine blk_drewN ?_ _ | refine blk_drew ?_ | refine blk_alloc ?_ _)); exact BK134.out) hb); have n1_ := Aside0.mk (below_step (by repeat (first | (with_reducible first | exact HB.out | apply below_alloc | apply pw_below_drewN | apply below_drew1 | refine below_set ?_ GE134.out) | exact HB.out)) hb); have n2_ := Aside0.mk (hbox); have n3_ := Aside0.mk ((by rw [hg]; exact (below_size (by repeat (first | (with_reducible first | exact HB.out | apply below_alloc | apply pw_below_drewN | apply below_drew1 | refine below_set ?_ GE134.out) | exact HB.out))) : w.heap.size ≤ gb144)); have n4_ := Aside0.mk ((by rw [hg]; exact (below_size (by repeat (first | (with_reducible first | exact HB.out | apply below_alloc | apply pw_below_drewN | apply below_drew1 | refine below_set ?_ GE134.out) | exact HB.out))) : w.heap.size ≤ gb144)); have n5_ := Aside0.mk ((by rw [hg]; exact Nat.ne_of_lt (blk_lt (g := gb134) (o := .cells #[.int .u32 t131, .int .i64 t132] 32 (0, 0)) (by (with_reducible repeat (first | refine blk_drewN ?_ _ | refine blk_drew ?_ | refine blk_alloc ?_ _)); exact BK134.out)) : gb134 ≠ gb144)); have n6_ := Aside0.mk ((by rw [hg]; exact Nat.ne_of_gt (blk_lt (g := gb134) (o := .cells #[.int .u32 t131, .int .i64 t132] 32 (0, 0)) (by (with_reducible repeat (first | refine blk_drewN ?_ _ | refine blk_drew ?_ | refine blk_alloc ?_ _)); exact BK134.out)) : gb144 ≠ gb134)); clear BK134; clear HB; have BK134 := n0_; have HB := n1_; have BK144 := n2_; have GW144 := n3_; have GE144 := n4_; have NB134_144 := n5_; have NB144_134 := n6_; clear n0_ n1_ n2_ n3_ n4_ n5_ n6_; clear hb hbox hg; have hnb48 := NB144_134.out; have hnc48 := NB134_144.out; have hcz49_0 : w47.cell? ⟨gb144, 0, none⟩ = some (.int .u8 0) := (blk_cell BK144.out 0).trans rfl; have hcz49_1 : w47.cell? ⟨gb144, 1, none⟩ = some (.int .u8 0) := (blk_cell BK144.out 1).trans rfl; have hcz49_2 : w47.cell? ⟨gb144, 2, none⟩ = some (.int .u8 0) := (blk_cell BK144.out 2).trans rfl; have hcz49_3 : w47.cell? ⟨gb144, 3, none⟩ = some (.int .u8 0) := (blk_cell BK144.out 3).trans rfl; have hcz49_4 : w47.cell? ⟨gb144, 4, none⟩ = some (.int .u8 0) := (blk_cell BK144.out 4).trans rfl; have hcz49_5 : w47.cell? ⟨gb144, 5, none⟩ = some (.int .u8 0) := (blk_cell BK144.out 5).trans rfl; have hfz49_0 := blk_frozen BK144.out 0; have hfz49_1 := blk_frozen BK144.out 1; have hfz49_2 := blk_frozen BK144.out 2; have hfz49_3 := blk_frozen BK144.out 3; have hfz49_4 := blk_frozen BK144.out 4; have hfz49_5 := blk_frozen BK144.out 5))
                go_ret
                exact ⟨by first | rfl | (simp [errW_none, errW_some] <;> rfl) | (simp [*, errW_none, errW_some] <;> rfl), by repeat (first | (with_reducible first | exact HB.out | apply below_alloc | apply pw_below_drewN | apply below_drew1 | refine below_set ?_ GE134.out | refine below_set ?_ GE144.out) | exact HB.out)⟩

end Go.Proofs.Ytncpcjphljfcpaa.PTwo
