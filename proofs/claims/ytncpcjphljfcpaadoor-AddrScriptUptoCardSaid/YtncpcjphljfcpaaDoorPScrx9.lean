-- written by xp.sh, a program of this seat's session
import Derived.Test.YtncpcjphljfcpaaDoorPScrx0
import Derived.Test.YtncpcjphljfcpaaDoorPScrx1
import Derived.Test.YtncpcjphljfcpaaDoorPScrx4
import Derived.Test.YtncpcjphljfcpaaDoorPScrx8
namespace Go.Proofs.YtncpcjphljfcpaaDoor.PScr
open Go.RowKit Go.Proofs.YtncpcjphljfcpaaDoorW.PrintWords Go.Proofs.YtncpcjphljfcpaaDoorW.PrintLast Go.Proofs.YtncpcjphljfcpaaDoorW.PrintMore
attribute [local go_sem] max2_int min2_int max_two min_two max_three min_three max_four min_four   -- for this text's walks alone
set_option linter.unusedVariables false
set_option linter.unusedSimpArgs false

attribute [local go_sem high] eqA31
/-! ### weftlaw1_holds: function 9 -/
def weftlaw1_holds.j0 : Nat → Bool → Int → Int → Int → Int → Int → Int → Int → Int → Int → Option (Bool)
  | 0, _, _, _, _, _, _, _, _, _, _ => none
  | k + 1, x48, x201000, x201001, x201002, x201003, x201004, x201005, x201006, x201007, x201008 => if x48 = true then (some false) else ((addr_Contains.f k x201001 x201002 x201000).bind fun t209 => ((weftref1_Contains.f k x201001 x201002 x201000).bind fun t210 => (if (t209 != t210) = true then (some false) else ((addr_Class.f x201000).bind fun t211 => ((weftref1_Class.f x201000).bind fun t212 => (some (t211 == t212)))))))
def weftlaw1_holds.f (k : Nat) (a0_0 : Int) (a0_1 : Int) (a0_2 : Int) (a0_3 : Int) (a0_4 : Int) (a0_5 : Int) (a0_6 : Int) (a0_7 : Int) (a0_8 : Int) : Option (Bool) := (addr_Valid.f k a0_1 a0_2).bind fun t201 => ((weftref1_Valid.f k a0_1 a0_2).bind fun t202 => (if (t201 != t202) = true then (some false) else ((addr_Span.f k a0_1 a0_2).bind fun bt203 => ((weftref1_Span.f k a0_1 a0_2).bind fun bt206 => (if bt203.1 = bt206.1 then (if bt203.2.1 = bt206.2.1 then (weftlaw1_holds.j0 k (bt203.2.2 != bt206.2.2) a0_0 a0_1 a0_2 a0_3 a0_4 a0_5 a0_6 a0_7 a0_8) else (weftlaw1_holds.j0 k true a0_0 a0_1 a0_2 a0_3 a0_4 a0_5 a0_6 a0_7 a0_8)) else (weftlaw1_holds.j0 k true a0_0 a0_1 a0_2 a0_3 a0_4 a0_5 a0_6 a0_7 a0_8))))))
theorem weftlaw1_holds.mono_l : ∀ k, (∀ y0 y1 y2 y3 y4 y5 y6 y7 y8 y9, LeO (weftlaw1_holds.j0 k y0 y1 y2 y3 y4 y5 y6 y7 y8 y9) (weftlaw1_holds.j0 (k + 1) y0 y1 y2 y3 y4 y5 y6 y7 y8 y9))
  | 0 => fun _ _ _ _ _ _ _ _ _ _ r h => by simp [weftlaw1_holds.j0] at h
  | k + 1 => by
    have ih0 := weftlaw1_holds.mono_l k
    · intro y0 y1 y2 y3 y4 y5 y6 y7 y8 y9
      unfold weftlaw1_holds.j0
      repeat' first
      | (with_reducible exact ih0 _ _ _ _ _ _ _ _ _ _)
      | (with_reducible exact addr_Contains.mono _ _ _ _)
      | (with_reducible exact addr_Span.mono _ _ _)
      | (with_reducible exact addr_Valid.mono _ _ _)
      | (with_reducible exact weftref1_Contains.mono _ _ _ _)
      | (with_reducible exact weftref1_Span.mono _ _ _)
      | (with_reducible exact weftref1_Valid.mono _ _ _)
      | (with_reducible exact LeO.refl _)
      | (with_reducible exact LeO.none _)
      | (with_reducible refine LeO.ite ?_ ?_)
      | (with_reducible refine LeO.bind ?_ (fun _ => ?_))
      | exact ih0 _ _ _ _ _ _ _ _ _ _
      | exact addr_Contains.mono _ _ _ _
      | exact addr_Span.mono _ _ _
      | exact addr_Valid.mono _ _ _
      | exact weftref1_Contains.mono _ _ _ _
      | exact weftref1_Span.mono _ _ _
      | exact weftref1_Valid.mono _ _ _
      | exact LeO.none _
      | refine LeO.ite ?_ ?_
      | refine LeO.bind ?_ (fun _ => ?_)
theorem weftlaw1_holds.mono : ∀ a0 a1 a2 a3 a4 a5 a6 a7 a8 k, LeO (weftlaw1_holds.f k a0 a1 a2 a3 a4 a5 a6 a7 a8) (weftlaw1_holds.f (k + 1) a0 a1 a2 a3 a4 a5 a6 a7 a8) := by
  intro a0 a1 a2 a3 a4 a5 a6 a7 a8 k
  have ih0 := weftlaw1_holds.mono_l k
  unfold weftlaw1_holds.f
  repeat' first
      | (with_reducible exact ih0 _ _ _ _ _ _ _ _ _ _)
      | (with_reducible exact addr_Contains.mono _ _ _ _)
      | (with_reducible exact addr_Span.mono _ _ _)
      | (with_reducible exact addr_Valid.mono _ _ _)
      | (with_reducible exact weftref1_Contains.mono _ _ _ _)
      | (with_reducible exact weftref1_Span.mono _ _ _)
      | (with_reducible exact weftref1_Valid.mono _ _ _)
      | (with_reducible exact LeO.refl _)
      | (with_reducible exact LeO.none _)
      | (with_reducible refine LeO.ite ?_ ?_)
      | (with_reducible refine LeO.bind ?_ (fun _ => ?_))
      | exact ih0 _ _ _ _ _ _ _ _ _ _
      | exact addr_Contains.mono _ _ _ _
      | exact addr_Span.mono _ _ _
      | exact addr_Valid.mono _ _ _
      | exact weftref1_Contains.mono _ _ _ _
      | exact weftref1_Span.mono _ _ _
      | exact weftref1_Valid.mono _ _ _
      | exact LeO.none _
      | refine LeO.ite ?_ ?_
      | refine LeO.bind ?_ (fun _ => ?_)
set_option maxHeartbeats 8000000 in
set_option maxRecDepth 100000 in
theorem weftlaw1_holds.calls (k : Nat) (a0_0 : Int) (a0_1 : Int) (a0_2 : Int) (a0_3 : Int) (a0_4 : Int) (a0_5 : Int) (a0_6 : Int) (a0_7 : Int) (a0_8 : Int) (r : Bool) (w : World) (hT : Cls w) (h : weftlaw1_holds.f k a0_0 a0_1 a0_2 a0_3 a0_4 a0_5 a0_6 a0_7 a0_8 = some r) :
    Calls Tryd.prog 9 #[.agg #[.int .u32 a0_0, .int .u32 a0_1, .int .i64 a0_2, .int .u8 a0_3, .int .u8 a0_4, .int .u8 a0_5, .int .u8 a0_6, .int .u8 a0_7, .int .u8 a0_8]] w fun e w' => e = .returned (.bool r) ∧ Below w.heap.size w w' := by
  have HT := Aside0.mk hT
  clear hT
  have hu35 := Tryd.underlying35
  have hu31 := Tryd.underlying31
  have HB := Aside0.mk (Below.refl w.heap.size w)
  have H : ((addr_Valid.f k a0_1 a0_2).bind fun t201 => ((weftref1_Valid.f k a0_1 a0_2).bind fun t202 => (if (t201 != t202) = true then (some false) else ((addr_Span.f k a0_1 a0_2).bind fun bt203 => ((weftref1_Span.f k a0_1 a0_2).bind fun bt206 => (if bt203.1 = bt206.1 then (if bt203.2.1 = bt206.2.1 then (weftlaw1_holds.j0 k (bt203.2.2 != bt206.2.2) a0_0 a0_1 a0_2 a0_3 a0_4 a0_5 a0_6 a0_7 a0_8) else (weftlaw1_holds.j0 k true a0_0 a0_1 a0_2 a0_3 a0_4 a0_5 a0_6 a0_7 a0_8)) else (weftlaw1_holds.j0 k true a0_0 a0_1 a0_2 a0_3 a0_4 a0_5 a0_6 a0_7 a0_8))))))) = some r := h
  clear h
  replace H := Option.bind_eq_some_iff.mp H
  obtain ⟨t201, A20, H⟩ := H
  replace H : ((weftref1_Valid.f k a0_1 a0_2).bind fun t202 => (if (t201 != t202) = true then (some false) else ((addr_Span.f k a0_1 a0_2).bind fun bt203 => ((weftref1_Span.f k a0_1 a0_2).bind fun bt206 => (if bt203.1 = bt206.1 then (if bt203.2.1 = bt206.2.1 then (weftlaw1_holds.j0 k (bt203.2.2 != bt206.2.2) a0_0 a0_1 a0_2 a0_3 a0_4 a0_5 a0_6 a0_7 a0_8) else (weftlaw1_holds.j0 k true a0_0 a0_1 a0_2 a0_3 a0_4 a0_5 a0_6 a0_7 a0_8)) else (weftlaw1_holds.j0 k true a0_0 a0_1 a0_2 a0_3 a0_4 a0_5 a0_6 a0_7 a0_8)))))) = some r := H
  have A2 := Aside0.mk A20
  clear A20
  replace H := Option.bind_eq_some_iff.mp H
  obtain ⟨t202, A30, H⟩ := H
  replace H : (if (t201 != t202) = true then (some false) else ((addr_Span.f k a0_1 a0_2).bind fun bt203 => ((weftref1_Span.f k a0_1 a0_2).bind fun bt206 => (if bt203.1 = bt206.1 then (if bt203.2.1 = bt206.2.1 then (weftlaw1_holds.j0 k (bt203.2.2 != bt206.2.2) a0_0 a0_1 a0_2 a0_3 a0_4 a0_5 a0_6 a0_7 a0_8) else (weftlaw1_holds.j0 k true a0_0 a0_1 a0_2 a0_3 a0_4 a0_5 a0_6 a0_7 a0_8)) else (weftlaw1_holds.j0 k true a0_0 a0_1 a0_2 a0_3 a0_4 a0_5 a0_6 a0_7 a0_8))))) = some r := H
  have A3 := Aside0.mk A30
  clear A30
  by_cases c4 : (t201 != t202) = true
  · rw [if_pos c4] at H
    have c4b0 : (t201 != t202) = true := c4
    (try (have c4b1 : decide (t201 = t202) = false := by simpa using c4))
    (try (have c4b2 : (t201 == t202) = false := by simpa using c4))
    (try (have c4b3 : ¬ (t201 = t202) := by simpa using c4))
    clear c4
    obtain rfl := Option.some.inj H
    go_enter Tryd.func9, Tryd.ntmps9
    go_wp2_with (first | ((with_reducible refine gate_dst (N := 1) rfl ?_); refine box_event ?hg (N := 1) ?hd (cs := #[.int .u32 a0_0, .int .u32 a0_1, .int .i64 a0_2, .int .u8 a0_3, .int .u8 a0_4, .int .u8 a0_5, .int .u8 a0_6, .int .u8 a0_7, .int .u8 a0_8]) (t := 35) ?hr ?_; (case hd => rfl); (case hg => rfl); (case hr => first | (go_simp; done) | (go_simp; rfl)); intro gb200 hg w5 hbox hb; have n0_ := Aside0.mk (below_step (by repeat (first | (with_reducible first | exact HB.out | apply below_alloc | apply pw_below_drewN | apply below_drew1) | exact HB.out)) hb); have n1_ := Aside0.mk (hbox); have n2_ := Aside0.mk ((by rw [hg]; exact (below_size (by repeat (first | (with_reducible first | exact HB.out | apply below_alloc | apply pw_below_drewN | apply below_drew1) | exact HB.out))) : w.heap.size ≤ gb200)); have n3_ := Aside0.mk ((by rw [hg]; exact (below_size (by repeat (first | (with_reducible first | exact HB.out | apply below_alloc | apply pw_below_drewN | apply below_drew1) | exact HB.out))) : w.heap.size ≤ gb200)); clear HB; have HB := n0_; have BK200 := n1_; have GW200 := n2_; have GE200 := n3_; clear n0_ n1_ n2_ n3_; clear hb hbox hg; have hcz6_0 : w5.cell? ⟨gb200, 0, none⟩ = some (.int .u32 a0_0) := (blk_cell BK200.out 0).trans rfl; have hcz6_1 : w5.cell? ⟨gb200, 1, none⟩ = some (.int .u32 a0_1) := (blk_cell BK200.out 1).trans rfl; have hcz6_2 : w5.cell? ⟨gb200, 2, none⟩ = some (.int .i64 a0_2) := (blk_cell BK200.out 2).trans rfl; have hcz6_3 : w5.cell? ⟨gb200, 3, none⟩ = some (.int .u8 a0_3) := (blk_cell BK200.out 3).trans rfl; have hcz6_4 : w5.cell? ⟨gb200, 4, none⟩ = some (.int .u8 a0_4) := (blk_cell BK200.out 4).trans rfl; have hcz6_5 : w5.cell? ⟨gb200, 5, none⟩ = some (.int .u8 a0_5) := (blk_cell BK200.out 5).trans rfl; have hcz6_6 : w5.cell? ⟨gb200, 6, none⟩ = some (.int .u8 a0_6) := (blk_cell BK200.out 6).trans rfl; have hcz6_7 : w5.cell? ⟨gb200, 7, none⟩ = some (.int .u8 a0_7) := (blk_cell BK200.out 7).trans rfl; have hcz6_8 : w5.cell? ⟨gb200, 8, none⟩ = some (.int .u8 a0_8) := (blk_cell BK200.out 8).trans rfl; have hfz6_0 := blk_frozen BK200.out 0; have hfz6_1 := blk_frozen BK200.out 1; have hfz6_2 := blk_frozen BK200.out 2; have hfz6_3 := blk_frozen BK200.out 3; have hfz6_4 := blk_frozen BK200.out 4; have hfz6_5 := blk_frozen BK200.out 5; have hfz6_6 := blk_frozen BK200.out 6; have hfz6_7 := blk_frozen BK200.out 7; have hfz6_8 := blk_frozen BK200.out 8) | ((with_reducible refine gate_callee (f := 24) rfl ?_); refine goesL_ (some 15) rfl rfl Tryd.func24 (by kernel_rfl) rfl #[.agg #[.int .u32 a0_1, .int .i64 a0_2]] rfl (by (try simp only [List.map_toArray, List.map_cons, List.map_nil]); first | done | rfl | (simp only [List.length_drop, List.length_take]; rfl)) ?_; (with_reducible refine (addr_Valid.calls k a0_1 a0_2 t201 _ A2.out).mono ?_); rintro e w7 ⟨rfl, hb⟩; refine ⟨_, rfl, ?_⟩; have n0_ := Aside0.mk (blk_below (g := gb200) (o := .cells #[.int .u32 a0_0, .int .u32 a0_1, .int .i64 a0_2, .int .u8 a0_3, .int .u8 a0_4, .int .u8 a0_5, .int .u8 a0_6, .int .u8 a0_7, .int .u8 a0_8] 35 (0, 0)) (by (with_reducible repeat (first | refine blk_drewN ?_ _ | refine blk_drew ?_ | refine blk_alloc ?_ _)); exact BK200.out) hb); have n1_ := Aside0.mk (below_step (by repeat (first | (with_reducible first | exact HB.out | apply below_alloc | apply pw_below_drewN | apply below_drew1 | refine below_set ?_ GE200.out) | exact HB.out)) hb); clear BK200; clear HB; have BK200 := n0_; have HB := n1_; clear n0_ n1_; (try clear hb); (try clear hb2); (try clear hk); (try clear hi); have hcz8_0 : w7.cell? ⟨gb200, 0, none⟩ = some (.int .u32 a0_0) := (blk_cell BK200.out 0).trans rfl; have hcz8_1 : w7.cell? ⟨gb200, 1, none⟩ = some (.int .u32 a0_1) := (blk_cell BK200.out 1).trans rfl; have hcz8_2 : w7.cell? ⟨gb200, 2, none⟩ = some (.int .i64 a0_2) := (blk_cell BK200.out 2).trans rfl; have hcz8_3 : w7.cell? ⟨gb200, 3, none⟩ = some (.int .u8 a0_3) := (blk_cell BK200.out 3).trans rfl; have hcz8_4 : w7.cell? ⟨gb200, 4, none⟩ = some (.int .u8 a0_4) := (blk_cell BK200.out 4).trans rfl; have hcz8_5 : w7.cell? ⟨gb200, 5, none⟩ = some (.int .u8 a0_5) := (blk_cell BK200.out 5).trans rfl; have hcz8_6 : w7.cell? ⟨gb200, 6, none⟩ = some (.int .u8 a0_6) := (blk_cell BK200.out 6).trans rfl; have hcz8_7 : w7.cell? ⟨gb200, 7, none⟩ = some (.int .u8 a0_7) := (blk_cell BK200.out 7).trans rfl; have hcz8_8 : w7.cell? ⟨gb200, 8, none⟩ = some (.int .u8 a0_8) := (blk_cell BK200.out 8).trans rfl; have hfz8_0 := blk_frozen BK200.out 0; have hfz8_1 := blk_frozen BK200.out 1; have hfz8_2 := blk_frozen BK200.out 2; have hfz8_3 := blk_frozen BK200.out 3; have hfz8_4 := blk_frozen BK200.out 4; have hfz8_5 := blk_frozen BK200.out 5; have hfz8_6 := blk_frozen BK200.out 6; have hfz8_7 := blk_frozen BK200.out 7; have hfz8_8 := blk_frozen BK200.out 8) | ((with_reducible refine gate_callee (f := 25) rfl ?_); refine goesL_ (some 18) rfl rfl Tryd.func25 (by kernel_rfl) rfl #[.agg #[.int .u32 a0_1, .int .i64 a0_2]] rfl (by (try simp only [List.map_toArray, List.map_cons, List.map_nil]); first | done | rfl | (simp only [List.length_drop, List.length_take]; rfl)) ?_; (with_reducible refine (weftref1_Valid.calls k a0_1 a0_2 t202 _ A3.out).mono ?_); rintro e w9 ⟨rfl, hb⟩; refine ⟨_, rfl, ?_⟩; have n0_ := Aside0.mk (blk_below (g := gb200) (o := .cells #[.int .u32 a0_0, .int .u32 a0_1, .int .i64 a0_2, .int .u8 a0_3, .int .u8 a0_4, .int .u8 a0_5, .int .u8 a0_6, .int .u8 a0_7, .int .u8 a0_8] 35 (0, 0)) (by (with_reducible repeat (first | refine blk_drewN ?_ _ | refine blk_drew ?_ | refine blk_alloc ?_ _)); exact BK200.out) hb); have n1_ := Aside0.mk (below_step (by repeat (first | (with_reducible first | exact HB.out | apply below_alloc | apply pw_below_drewN | apply below_drew1 | refine below_set ?_ GE200.out) | exact HB.out)) hb); clear BK200; clear HB; have BK200 := n0_; have HB := n1_; clear n0_ n1_; (try clear hb); (try clear hb2); (try clear hk); (try clear hi)))
    go_ret
    exact ⟨by first | rfl | (simp [errW_none, errW_some] <;> rfl) | (simp [*, errW_none, errW_some] <;> rfl), by repeat (first | (with_reducible first | exact HB.out | apply below_alloc | apply pw_below_drewN | apply below_drew1 | refine below_set ?_ GE200.out) | exact HB.out)⟩
  · rw [if_neg c4] at H
    have c4b0 : (t201 != t202) = false := by simpa using c4
    (try (have c4b1 : decide (t201 = t202) = true := by simpa using c4))
    (try (have c4b2 : (t201 == t202) = true := by simpa using c4))
    clear c4
    replace H := Option.bind_eq_some_iff.mp H
    obtain ⟨⟨t203, t204, t205⟩, A100, H⟩ := H
    replace H : ((weftref1_Span.f k a0_1 a0_2).bind fun bt206 => (if t203 = bt206.1 then (if t204 = bt206.2.1 then (weftlaw1_holds.j0 k (t205 != bt206.2.2) a0_0 a0_1 a0_2 a0_3 a0_4 a0_5 a0_6 a0_7 a0_8) else (weftlaw1_holds.j0 k true a0_0 a0_1 a0_2 a0_3 a0_4 a0_5 a0_6 a0_7 a0_8)) else (weftlaw1_holds.j0 k true a0_0 a0_1 a0_2 a0_3 a0_4 a0_5 a0_6 a0_7 a0_8))) = some r := H
    have A10 := Aside0.mk A100
    clear A100
    replace H := Option.bind_eq_some_iff.mp H
    obtain ⟨⟨t206, t207, t208⟩, A110, H⟩ := H
    replace H : (if t203 = t206 then (if t204 = t207 then (weftlaw1_holds.j0 k (t205 != t208) a0_0 a0_1 a0_2 a0_3 a0_4 a0_5 a0_6 a0_7 a0_8) else (weftlaw1_holds.j0 k true a0_0 a0_1 a0_2 a0_3 a0_4 a0_5 a0_6 a0_7 a0_8)) else (weftlaw1_holds.j0 k true a0_0 a0_1 a0_2 a0_3 a0_4 a0_5 a0_6 a0_7 a0_8)) = some r := H
    have A11 := Aside0.mk A110
    clear A110
    have HC12 := Aside0.mk H
    clear H
    go_enter Tryd.func9, Tryd.ntmps9
    go_upto_region 7 with (first | ((with_reducible refine gate_dst (N := 1) rfl ?_); refine box_event ?hg (N := 1) ?hd (cs := #[.int .u32 a0_0, .int .u32 a0_1, .int .i64 a0_2, .int .u8 a0_3, .int .u8 a0_4, .int .u8 a0_5, .int .u8 a0_6, .int .u8 a0_7, .int .u8 a0_8]) (t := 35) ?hr ?_; (case hd => rfl); (case hg => rfl); (case hr => first | (go_simp; done) | (go_simp; rfl)); intro gb200 hg w13 hbox hb; have n0_ := Aside0.mk (below_step (by repeat (first | (with_reducible first | exact HB.out | apply below_alloc | apply pw_below_drewN | apply below_drew1) | exact HB.out)) hb); have n1_ := Aside0.mk (hbox); have n2_ := Aside0.mk ((by rw [hg]; exact (below_size (by repeat (first | (with_reducible first | exact HB.out | apply below_alloc | apply pw_below_drewN | apply below_drew1) | exact HB.out))) : w.heap.size ≤ gb200)); have n3_ := Aside0.mk ((by rw [hg]; exact (below_size (by repeat (first | (with_reducible first | exact HB.out | apply below_alloc | apply pw_below_drewN | apply below_drew1) | exact HB.out))) : w.heap.size ≤ gb200)); clear HB; have HB := n0_; have BK200 := n1_; have GW200 := n2_; have GE200 := n3_; clear n0_ n1_ n2_ n3_; clear hb hbox hg; have hcz14_0 : w13.cell? ⟨gb200, 0, none⟩ = some (.int .u32 a0_0) := (blk_cell BK200.out 0).trans rfl; have hcz14_1 : w13.cell? ⟨gb200, 1, none⟩ = some (.int .u32 a0_1) := (blk_cell BK200.out 1).trans rfl; have hcz14_2 : w13.cell? ⟨gb200, 2, none⟩ = some (.int .i64 a0_2) := (blk_cell BK200.out 2).trans rfl; have hcz14_3 : w13.cell? ⟨gb200, 3, none⟩ = some (.int .u8 a0_3) := (blk_cell BK200.out 3).trans rfl; have hcz14_4 : w13.cell? ⟨gb200, 4, none⟩ = some (.int .u8 a0_4) := (blk_cell BK200.out 4).trans rfl; have hcz14_5 : w13.cell? ⟨gb200, 5, none⟩ = some (.int .u8 a0_5) := (blk_cell BK200.out 5).trans rfl; have hcz14_6 : w13.cell? ⟨gb200, 6, none⟩ = some (.int .u8 a0_6) := (blk_cell BK200.out 6).trans rfl; have hcz14_7 : w13.cell? ⟨gb200, 7, none⟩ = some (.int .u8 a0_7) := (blk_cell BK200.out 7).trans rfl; have hcz14_8 : w13.cell? ⟨gb200, 8, none⟩ = some (.int .u8 a0_8) := (blk_cell BK200.out 8).trans rfl; have hfz14_0 := blk_frozen BK200.out 0; have hfz14_1 := blk_frozen BK200.out 1; have hfz14_2 := blk_frozen BK200.out 2; have hfz14_3 := blk_frozen BK200.out 3; have hfz14_4 := blk_frozen BK200.out 4; have hfz14_5 := blk_frozen BK200.out 5; have hfz14_6 := blk_frozen BK200.out 6; have hfz14_7 := blk_frozen BK200.out 7; have hfz14_8 := blk_frozen BK200.out 8) | ((with_reducible refine gate_callee (f := 24) rfl ?_); refine goesL_ (some 15) rfl rfl Tryd.func24 (by kernel_rfl) rfl #[.agg #[.int .u32 a0_1, .int .i64 a0_2]] rfl (by (try simp only [List.map_toArray, List.map_cons, List.map_nil]); first | done | rfl | (simp only [List.length_drop, List.length_take]; rfl)) ?_; (with_reducible refine (addr_Valid.calls k a0_1 a0_2 t201 _ A2.out).mono ?_); rintro e w15 ⟨rfl, hb⟩; refine ⟨_, rfl, ?_⟩; have n0_ := Aside0.mk (blk_below (g := gb200) (o := .cells #[.int .u32 a0_0, .int .u32 a0_1, .int .i64 a0_2, .int .u8 a0_3, .int .u8 a0_4, .int .u8 a0_5, .int .u8 a0_6, .int .u8 a0_7, .int .u8 a0_8] 35 (0, 0)) (by (with_reducible repeat (first | refine blk_drewN ?_ _ | refine blk_drew ?_ | refine blk_alloc ?_ _)); exact BK200.out) hb); have n1_ := Aside0.mk (below_step (by repeat (first | (with_reducible first | exact HB.out | apply below_alloc | apply pw_below_drewN | apply below_drew1 | refine below_set ?_ GE200.out) | exact HB.out)) hb); clear BK200; clear HB; have BK200 := n0_; have HB := n1_; clear n0_ n1_; (try clear hb); (try clear hb2); (try clear hk); (try clear hi); have hcz16_0 : w15.cell? ⟨gb200, 0, none⟩ = some (.int .u32 a0_0) := (blk_cell BK200.out 0).trans rfl; have hcz16_1 : w15.cell? ⟨gb200, 1, none⟩ = some (.int .u32 a0_1) := (blk_cell BK200.out 1).trans rfl; have hcz16_2 : w15.cell? ⟨gb200, 2, none⟩ = some (.int .i64 a0_2) := (blk_cell BK200.out 2).trans rfl; have hcz16_3 : w15.cell? ⟨gb200, 3, none⟩ = some (.int .u8 a0_3) := (blk_cell BK200.out 3).trans rfl; have hcz16_4 : w15.cell? ⟨gb200, 4, none⟩ = some (.int .u8 a0_4) := (blk_cell BK200.out 4).trans rfl; have hcz16_5 : w15.cell? ⟨gb200, 5, none⟩ = some (.int .u8 a0_5) := (blk_cell BK200.out 5).trans rfl; have hcz16_6 : w15.cell? ⟨gb200, 6, none⟩ = some (.int .u8 a0_6) := (blk_cell BK200.out 6).trans rfl; have hcz16_7 : w15.cell? ⟨gb200, 7, none⟩ = some (.int .u8 a0_7) := (blk_cell BK200.out 7).trans rfl; have hcz16_8 : w15.cell? ⟨gb200, 8, none⟩ = some (.int .u8 a0_8) := (blk_cell BK200.out 8).trans rfl; have hfz16_0 := blk_frozen BK200.out 0; have hfz16_1 := blk_frozen BK200.out 1; have hfz16_2 := blk_frozen BK200.out 2; have hfz16_3 := blk_frozen BK200.out 3; have hfz16_4 := blk_frozen BK200.out 4; have hfz16_5 := blk_frozen BK200.out 5; have hfz16_6 := blk_frozen BK200.out 6; have hfz16_7 := blk_frozen BK200.out 7; have hfz16_8 := blk_frozen BK200.out 8) | ((with_reducible refine gate_callee (f := 25) rfl ?_); refine goesL_ (some 18) rfl rfl Tryd.func25 (by kernel_rfl) rfl #[.agg #[.int .u32 a0_1, .int .i64 a0_2]] rfl (by (try simp only [List.map_toArray, List.map_cons, List.map_nil]); first | done | rfl | (simp only [List.length_drop, List.length_take]; rfl)) ?_; (with_reducible refine (weftref1_Valid.calls k a0_1 a0_2 t202 _ A3.out).mono ?_); rintro e w17 ⟨rfl, hb⟩; refine ⟨_, rfl, ?_⟩; have n0_ := Aside0.mk (blk_below (g := gb200) (o := .cells #[.int .u32 a0_0, .int .u32 a0_1, .int .i64 a0_2, .int .u8 a0_3, .int .u8 a0_4, .int .u8 a0_5, .int .u8 a0_6, .int .u8 a0_7, .int .u8 a0_8] 35 (0, 0)) (by (with_reducible repeat (first | refine blk_drewN ?_ _ | refine blk_drew ?_ | refine blk_alloc ?_ _)); exact BK200.out) hb); have n1_ := Aside0.mk (below_step (by repeat (first | (with_reducible first | exact HB.out | apply below_alloc | apply pw_below_drewN | apply below_drew1 | refine below_set ?_ GE200.out) | exact HB.out)) hb); clear BK200; clear HB; have BK200 := n0_; have HB := n1_; clear n0_ n1_; (try clear hb); (try clear hb2); (try clear hk); (try clear hi); have hcz18_0 : w17.cell? ⟨gb200, 0, none⟩ = some (.int .u32 a0_0) := (blk_cell BK200.out 0).trans rfl; have hcz18_1 : w17.cell? ⟨gb200, 1, none⟩ = some (.int .u32 a0_1) := (blk_cell BK200.out 1).trans rfl; have hcz18_2 : w17.cell? ⟨gb200, 2, none⟩ = some (.int .i64 a0_2) := (blk_cell BK200.out 2).trans rfl; have hcz18_3 : w17.cell? ⟨gb200, 3, none⟩ = some (.int .u8 a0_3) := (blk_cell BK200.out 3).trans rfl; have hcz18_4 : w17.cell? ⟨gb200, 4, none⟩ = some (.int .u8 a0_4) := (blk_cell BK200.out 4).trans rfl; have hcz18_5 : w17.cell? ⟨gb200, 5, none⟩ = some (.int .u8 a0_5) := (blk_cell BK200.out 5).trans rfl; have hcz18_6 : w17.cell? ⟨gb200, 6, none⟩ = some (.int .u8 a0_6) := (blk_cell BK200.out 6).trans rfl; have hcz18_7 : w17.cell? ⟨gb200, 7, none⟩ = some (.int .u8 a0_7) := (blk_cell BK200.out 7).trans rfl; have hcz18_8 : w17.cell? ⟨gb200, 8, none⟩ = some (.int .u8 a0_8) := (blk_cell BK200.out 8).trans rfl; have hfz18_0 := blk_frozen BK200.out 0; have hfz18_1 := blk_frozen BK200.out 1; have hfz18_2 := blk_frozen BK200.out 2; have hfz18_3 := blk_frozen BK200.out 3; have hfz18_4 := blk_frozen BK200.out 4; have hfz18_5 := blk_frozen BK200.out 5; have hfz18_6 := blk_frozen BK200.out 6; have hfz18_7 := blk_frozen BK200.out 7; have hfz18_8 := blk_frozen BK200.out 8) | ((with_reducible refine gate_callee (f := 26) rfl ?_); refine goesL_ (some 25) rfl rfl Tryd.func26 (by kernel_rfl) rfl #[.agg #[.int .u32 a0_1, .int .i64 a0_2]] rfl (by (try simp only [List.map_toArray, List.map_cons, List.map_nil]); first | done | rfl | (simp only [List.length_drop, List.length_take]; rfl)) ?_; (with_reducible refine (addr_Span.calls k a0_1 a0_2 t203 t204 t205 _ A10.out).mono ?_); rintro e w19 ⟨rfl, hb⟩; refine ⟨_, rfl, ?_⟩; have n0_ := Aside0.mk (blk_below (g := gb200) (o := .cells #[.int .u32 a0_0, .int .u32 a0_1, .int .i64 a0_2, .int .u8 a0_3, .int .u8 a0_4, .int .u8 a0_5, .int .u8 a0_6, .int .u8 a0_7, .int .u8 a0_8] 35 (0, 0)) (by (with_reducible repeat (first | refine blk_drewN ?_ _ | refine blk_drew ?_ | refine blk_alloc ?_ _)); exact BK200.out) hb); have n1_ := Aside0.mk (below_step (by repeat (first | (with_reducible first | exact HB.out | apply below_alloc | apply pw_below_drewN | apply below_drew1 | refine below_set ?_ GE200.out) | exact HB.out)) hb); clear BK200; clear HB; have BK200 := n0_; have HB := n1_; clear n0_ n1_; (try clear hb); (try clear hb2); (try clear hk); (try clear hi); have hcz20_0 : w19.cell? ⟨gb200, 0, none⟩ = some (.int .u32 a0_0) := (blk_cell BK200.out 0).trans rfl; have hcz20_1 : w19.cell? ⟨gb200, 1, none⟩ = some (.int .u32 a0_1) := (blk_cell BK200.out 1).trans rfl; have hcz20_2 : w19.cell? ⟨gb200, 2, none⟩ = some (.int .i64 a0_2) := (blk_cell BK200.out 2).trans rfl; have hcz20_3 : w19.cell? ⟨gb200, 3, none⟩ = some (.int .u8 a0_3) := (blk_cell BK200.out 3).trans rfl; have hcz20_4 : w19.cell? ⟨gb200, 4, none⟩ = some (.int .u8 a0_4) := (blk_cell BK200.out 4).trans rfl; have hcz20_5 : w19.cell? ⟨gb200, 5, none⟩ = some (.int .u8 a0_5) := (blk_cell BK200.out 5).trans rfl; have hcz20_6 : w19.cell? ⟨gb200, 6, none⟩ = some (.int .u8 a0_6) := (blk_cell BK200.out 6).trans rfl; have hcz20_7 : w19.cell? ⟨gb200, 7, none⟩ = some (.int .u8 a0_7) := (blk_cell BK200.out 7).trans rfl; have hcz20_8 : w19.cell? ⟨gb200, 8, none⟩ = some (.int .u8 a0_8) := (blk_cell BK200.out 8).trans rfl; have hfz20_0 := blk_frozen BK200.out 0; have hfz20_1 := blk_frozen BK200.out 1; have hfz20_2 := blk_frozen BK200.out 2; have hfz20_3 := blk_frozen BK200.out 3; have hfz20_4 := blk_frozen BK200.out 4; have hfz20_5 := blk_frozen BK200.out 5; have hfz20_6 := blk_frozen BK200.out 6; have hfz20_7 := blk_frozen BK200.out 7; have hfz20_8 := blk_frozen BK200.out 8) | ((with_reducible refine gate_callee (f := 27) rfl ?_); refine goesL_ (some 32) rfl rfl Tryd.func27 (by kernel_rfl) rfl #[.agg #[.int .u32 a0_1, .int .i64 a0_2]] rfl (by (try simp only [List.map_toArray, List.map_cons, List.map_nil]); first | done | rfl | (simp only [List.length_drop, List.length_take]; rfl)) ?_; (with_reducible refine (weftref1_Span.calls k a0_1 a0_2 t206 t207 t208 _ A11.out).mono ?_); rintro e w21 ⟨rfl, hb⟩; refine ⟨_, rfl, ?_⟩; have n0_ := Aside0.mk (blk_below (g := gb200) (o := .cells #[.int .u32 a0_0, .int .u32 a0_1, .int .i64 a0_2, .int .u8 a0_3, .int .u8 a0_4, .int .u8 a0_5, .int .u8 a0_6, .int .u8 a0_7, .int .u8 a0_8] 35 (0, 0)) (by (with_reducible repeat (first | refine blk_drewN ?_ _ | refine blk_drew ?_ | refine blk_alloc ?_ _)); exact BK200.out) hb); have n1_ := Aside0.mk (below_step (by repeat (first | (with_reducible first | exact HB.out | apply below_alloc | apply pw_below_drewN | apply below_drew1 | refine below_set ?_ GE200.out) | exact HB.out)) hb); clear BK200; clear HB; have BK200 := n0_; have HB := n1_; clear n0_ n1_; (try clear hb); (try clear hb2); (try clear hk); (try clear hi)))
    (try simp only [Act.put, List.setIfInBounds_toArray, List.set_cons_zero, List.set_cons_succ])
    go_cut [48] (fun v48 wc => ∃ (kq : Nat) (x48_11 : Bool), v48 = .bool x48_11 ∧ Aside0 (weftlaw1_holds.j0 kq x48_11 a0_0 a0_1 a0_2 a0_3 a0_4 a0_5 a0_6 a0_7 a0_8 = some r) ∧ Aside0 (kq ≤ k) ∧ Aside0 (wc.heap[gb200]? = some (.cells #[.int .u32 a0_0, .int .u32 a0_1, .int .i64 a0_2, .int .u8 a0_3, .int .u8 a0_4, .int .u8 a0_5, .int .u8 a0_6, .int .u8 a0_7, .int .u8 a0_8] 35 (0, 0))) ∧ Aside0 (Below w.heap.size w wc))
    case first =>
      have H := HC12.out
      clear HC12
      by_cases c22 : t203 = t206
      · rw [if_pos c22] at H
        have c22b0 : (t203 == t206) = true := beq_iff_eq.mpr c22
        have c22b1 : (t203 != t206) = false := bne_eq_false_iff_eq.mpr c22
        clear c22
        (first | rw [c22b0] | (simp only [i64_w, i32_w]; rw [c22b0]) | skip)
        by_cases c23 : t204 = t207
        · rw [if_pos c23] at H
          have c23b0 : (t204 == t207) = true := beq_iff_eq.mpr c23
          have c23b1 : (t204 != t207) = false := bne_eq_false_iff_eq.mpr c23
          clear c23
          have H' := Aside0.mk H
          clear H
          go_wp2
          go_meet
          case rel => exact ⟨_, ((t205 != t208)), (by first | rfl | (simp; done) | (simp [*]; done)), H', ⟨by first | omega | exact Nat.le_refl _⟩, ⟨by (with_reducible repeat (first | refine blk_drewN ?_ _ | refine blk_drew ?_ | refine blk_alloc ?_ _)); exact BK200.out⟩, ⟨by repeat (first | (with_reducible first | exact HB.out | apply below_alloc | apply pw_below_drewN | apply below_drew1 | refine below_set ?_ GE200.out) | exact HB.out)⟩⟩
        · rw [if_neg c23] at H
          have c23b0 : (t204 == t207) = false := beq_eq_false_iff_ne.mpr c23
          have c23b1 : (t204 != t207) = true := bne_iff_ne.mpr c23
          have H' := Aside0.mk H
          clear H
          go_wp2
          go_meet
          case rel => exact ⟨_, (true), (by first | rfl | (simp; done) | (simp [*]; done)), H', ⟨by first | omega | exact Nat.le_refl _⟩, ⟨by (with_reducible repeat (first | refine blk_drewN ?_ _ | refine blk_drew ?_ | refine blk_alloc ?_ _)); exact BK200.out⟩, ⟨by repeat (first | (with_reducible first | exact HB.out | apply below_alloc | apply pw_below_drewN | apply below_drew1 | refine below_set ?_ GE200.out) | exact HB.out)⟩⟩
      · rw [if_neg c22] at H
        have c22b0 : (t203 == t206) = false := beq_eq_false_iff_ne.mpr c22
        have c22b1 : (t203 != t206) = true := bne_iff_ne.mpr c22
        (first | rw [c22b0] | (simp only [i64_w, i32_w]; rw [c22b0]) | skip)
        have H' := Aside0.mk H
        clear H
        go_wp2
        go_meet
        case rel => exact ⟨_, (true), (by first | rfl | (simp; done) | (simp [*]; done)), H', ⟨by first | omega | exact Nat.le_refl _⟩, ⟨by (with_reducible repeat (first | refine blk_drewN ?_ _ | refine blk_drew ?_ | refine blk_alloc ?_ _)); exact BK200.out⟩, ⟨by repeat (first | (with_reducible first | exact HB.out | apply below_alloc | apply pw_below_drewN | apply below_drew1 | refine below_set ?_ GE200.out) | exact HB.out)⟩⟩
    case rest =>
      clear HC12
      try clear c2
      try clear p2
      try clear c4
      try clear c4b0
      try clear c4b1
      try clear c4b2
      try clear c9
      try clear c22
      try clear c22b0
      try clear c22b1
      try clear c23
      try clear c23b0
      try clear c23b1
      try clear hcz14_0
      try clear hcz14_1
      try clear hcz14_2
      try clear hcz14_3
      try clear hcz14_4
      try clear hcz14_5
      try clear hcz14_6
      try clear hcz14_7
      try clear hcz14_8
      try clear hcz16_0
      try clear hcz16_1
      try clear hcz16_2
      try clear hcz16_3
      try clear hcz16_4
      try clear hcz16_5
      try clear hcz16_6
      try clear hcz16_7
      try clear hcz16_8
      try clear hcz18_0
      try clear hcz18_1
      try clear hcz18_2
      try clear hcz18_3
      try clear hcz18_4
      try clear hcz18_5
      try clear hcz18_6
      try clear hcz18_7
      try clear hcz18_8
      try clear hcz20_0
      try clear hcz20_1
      try clear hcz20_2
      try clear hcz20_3
      try clear hcz20_4
      try clear hcz20_5
      try clear hcz20_6
      try clear hcz20_7
      try clear hcz20_8
      try clear hcz6_0
      try clear hcz6_1
      try clear hcz6_2
      try clear hcz6_3
      try clear hcz6_4
      try clear hcz6_5
      try clear hcz6_6
      try clear hcz6_7
      try clear hcz6_8
      try clear hcz8_0
      try clear hcz8_1
      try clear hcz8_2
      try clear hcz8_3
      try clear hcz8_4
      try clear hcz8_5
      try clear hcz8_6
      try clear hcz8_7
      try clear hcz8_8
      try clear hfz14_0
      try clear hfz14_1
      try clear hfz14_2
      try clear hfz14_3
      try clear hfz14_4
      try clear hfz14_5
      try clear hfz14_6
      try clear hfz14_7
      try clear hfz14_8
      try clear hfz16_0
      try clear hfz16_1
      try clear hfz16_2
      try clear hfz16_3
      try clear hfz16_4
      try clear hfz16_5
      try clear hfz16_6
      try clear hfz16_7
      try clear hfz16_8
      try clear hfz18_0
      try clear hfz18_1
      try clear hfz18_2
      try clear hfz18_3
      try clear hfz18_4
      try clear hfz18_5
      try clear hfz18_6
      try clear hfz18_7
      try clear hfz18_8
      try clear hfz20_0
      try clear hfz20_1
      try clear hfz20_2
      try clear hfz20_3
      try clear hfz20_4
      try clear hfz20_5
      try clear hfz20_6
      try clear hfz20_7
      try clear hfz20_8
      try clear hfz6_0
      try clear hfz6_1
      try clear hfz6_2
      try clear hfz6_3
      try clear hfz6_4
      try clear hfz6_5
      try clear hfz6_6
      try clear hfz6_7
      try clear hfz6_8
      try clear hfz8_0
      try clear hfz8_1
      try clear hfz8_2
      try clear hfz8_3
      try clear hfz8_4
      try clear hfz8_5
      try clear hfz8_6
      try clear hfz8_7
      try clear hfz8_8
      obtain ⟨kq, x48_11, rfl, HA, HJ11, BK200, HB⟩ := hcut
      cases kq with
      | zero => exact absurd HA.out (by simp [weftlaw1_holds.j0])
      | succ kj11 =>
        have H := HA.out
        clear HA
        simp only [weftlaw1_holds.j0] at H
        by_cases c24 : x48_11 = true
        · subst c24
          have H1 : (some false) = some r := by rw [if_pos rfl] at H; exact H
          clear H
          have H := H1
          clear H1
          obtain rfl := Option.some.inj H
          go_wp2
          go_ret
          exact ⟨by first | rfl | (simp [errW_none, errW_some] <;> rfl) | (simp [*, errW_none, errW_some] <;> rfl), by repeat (first | (with_reducible first | exact HB.out | apply below_alloc | apply pw_below_drewN | apply below_drew1 | refine below_set ?_ GE200.out) | exact HB.out)⟩
        · replace c24 := Bool.eq_false_iff.mpr c24
          subst c24
          have H1 : ((addr_Contains.f kj11 a0_1 a0_2 a0_0).bind fun t209 => ((weftref1_Contains.f kj11 a0_1 a0_2 a0_0).bind fun t210 => (if (t209 != t210) = true then (some false) else ((addr_Class.f a0_0).bind fun t211 => ((weftref1_Class.f a0_0).bind fun t212 => (some (t211 == t212))))))) = some r := by rw [if_neg (show ¬ (false = true) by decide)] at H; exact H
          clear H
          have H := H1
          clear H1
          replace H := Option.bind_eq_some_iff.mp H
          obtain ⟨t209, A250, H⟩ := H
          replace H : ((weftref1_Contains.f kj11 a0_1 a0_2 a0_0).bind fun t210 => (if (t209 != t210) = true then (some false) else ((addr_Class.f a0_0).bind fun t211 => ((weftref1_Class.f a0_0).bind fun t212 => (some (t211 == t212)))))) = some r := H
          have A25 := Aside0.mk A250
          clear A250
          replace H := Option.bind_eq_some_iff.mp H
          obtain ⟨t210, A260, H⟩ := H
          replace H : (if (t209 != t210) = true then (some false) else ((addr_Class.f a0_0).bind fun t211 => ((weftref1_Class.f a0_0).bind fun t212 => (some (t211 == t212))))) = some r := H
          have A26 := Aside0.mk A260
          clear A260
          by_cases c27 : (t209 != t210) = true
          · rw [if_pos c27] at H
            have c27b0 : (t209 != t210) = true := c27
            (try (have c27b1 : decide (t209 = t210) = false := by simpa using c27))
            (try (have c27b2 : (t209 == t210) = false := by simpa using c27))
            (try (have c27b3 : ¬ (t209 = t210) := by simpa using c27))
            clear c27
            obtain rfl := Option.some.inj H
            have hcz28_0 : wc.cell? ⟨gb200, 0, none⟩ = some (.int .u32 a0_0) := (blk_cell BK200.out 0).trans rfl
            have hcz28_1 : wc.cell? ⟨gb200, 1, none⟩ = some (.int .u32 a0_1) := (blk_cell BK200.out 1).trans rfl
            have hcz28_2 : wc.cell? ⟨gb200, 2, none⟩ = some (.int .i64 a0_2) := (blk_cell BK200.out 2).trans rfl
            have hcz28_3 : wc.cell? ⟨gb200, 3, none⟩ = some (.int .u8 a0_3) := (blk_cell BK200.out 3).trans rfl
            have hcz28_4 : wc.cell? ⟨gb200, 4, none⟩ = some (.int .u8 a0_4) := (blk_cell BK200.out 4).trans rfl
            have hcz28_5 : wc.cell? ⟨gb200, 5, none⟩ = some (.int .u8 a0_5) := (blk_cell BK200.out 5).trans rfl
            have hcz28_6 : wc.cell? ⟨gb200, 6, none⟩ = some (.int .u8 a0_6) := (blk_cell BK200.out 6).trans rfl
            have hcz28_7 : wc.cell? ⟨gb200, 7, none⟩ = some (.int .u8 a0_7) := (blk_cell BK200.out 7).trans rfl
            have hcz28_8 : wc.cell? ⟨gb200, 8, none⟩ = some (.int .u8 a0_8) := (blk_cell BK200.out 8).trans rfl
            have hfz28_0 := blk_frozen BK200.out 0
            have hfz28_1 := blk_frozen BK200.out 1
            have hfz28_2 := blk_frozen BK200.out 2
            have hfz28_3 := blk_frozen BK200.out 3
            have hfz28_4 := blk_frozen BK200.out 4
            have hfz28_5 := blk_frozen BK200.out 5
            have hfz28_6 := blk_frozen BK200.out 6
            have hfz28_7 := blk_frozen BK200.out 7
            have hfz28_8 := blk_frozen BK200.out 8
            go_wp2_with (first | ((with_reducible refine gate_callee (f := 28) rfl ?_); refine goesL_ (some 53) rfl rfl Tryd.func28 (by kernel_rfl) rfl #[.agg #[.int .u32 a0_1, .int .i64 a0_2], .int .u32 a0_0] rfl (by (try simp only [List.map_toArray, List.map_cons, List.map_nil]); first | done | rfl | (simp only [List.length_drop, List.length_take]; rfl)) ?_; (with_reducible refine (addr_Contains.calls kj11 a0_1 a0_2 a0_0 t209 _ A25.out).mono ?_); rintro e w29 ⟨rfl, hb⟩; refine ⟨_, rfl, ?_⟩; have n0_ := Aside0.mk (blk_below (g := gb200) (o := .cells #[.int .u32 a0_0, .int .u32 a0_1, .int .i64 a0_2, .int .u8 a0_3, .int .u8 a0_4, .int .u8 a0_5, .int .u8 a0_6, .int .u8 a0_7, .int .u8 a0_8] 35 (0, 0)) (by (with_reducible repeat (first | refine blk_drewN ?_ _ | refine blk_drew ?_ | refine blk_alloc ?_ _)); exact BK200.out) hb); have n1_ := Aside0.mk (below_step (by repeat (first | (with_reducible first | exact HB.out | apply below_alloc | apply pw_below_drewN | apply below_drew1 | refine below_set ?_ GE200.out) | exact HB.out)) hb); clear BK200; clear HB; have BK200 := n0_; have HB := n1_; clear n0_ n1_; (try clear hb); (try clear hb2); (try clear hk); (try clear hi); have hcz30_0 : w29.cell? ⟨gb200, 0, none⟩ = some (.int .u32 a0_0) := (blk_cell BK200.out 0).trans rfl; have hcz30_1 : w29.cell? ⟨gb200, 1, none⟩ = some (.int .u32 a0_1) := (blk_cell BK200.out 1).trans rfl; have hcz30_2 : w29.cell? ⟨gb200, 2, none⟩ = some (.int .i64 a0_2) := (blk_cell BK200.out 2).trans rfl; have hcz30_3 : w29.cell? ⟨gb200, 3, none⟩ = some (.int .u8 a0_3) := (blk_cell BK200.out 3).trans rfl; have hcz30_4 : w29.cell? ⟨gb200, 4, none⟩ = some (.int .u8 a0_4) := (blk_cell BK200.out 4).trans rfl; have hcz30_5 : w29.cell? ⟨gb200, 5, none⟩ = some (.int .u8 a0_5) := (blk_cell BK200.out 5).trans rfl; have hcz30_6 : w29.cell? ⟨gb200, 6, none⟩ = some (.int .u8 a0_6) := (blk_cell BK200.out 6).trans rfl; have hcz30_7 : w29.cell? ⟨gb200, 7, none⟩ = some (.int .u8 a0_7) := (blk_cell BK200.out 7).trans rfl; have hcz30_8 : w29.cell? ⟨gb200, 8, none⟩ = some (.int .u8 a0_8) := (blk_cell BK200.out 8).trans rfl; have hfz30_0 := blk_frozen BK200.out 0; have hfz30_1 := blk_frozen BK200.out 1; have hfz30_2 := blk_frozen BK200.out 2; have hfz30_3 := blk_frozen BK200.out 3; have hfz30_4 := blk_frozen BK200.out 4; have hfz30_5 := blk_frozen BK200.out 5; have hfz30_6 := blk_frozen BK200.out 6; have hfz30_7 := blk_frozen BK200.out 7; have hfz30_8 := blk_frozen BK200.out 8) | ((with_reducible refine gate_callee (f := 29) rfl ?_); refine goesL_ (some 58) rfl rfl Tryd.func29 (by kernel_rfl) rfl #[.agg #[.int .u32 a0_1, .int .i64 a0_2], .int .u32 a0_0] rfl (by (try simp only [List.map_toArray, List.map_cons, List.map_nil]); first | done | rfl | (simp only [List.length_drop, List.length_take]; rfl)) ?_; (with_reducible refine (weftref1_Contains.calls kj11 a0_1 a0_2 a0_0 t210 _ A26.out).mono ?_); rintro e w31 ⟨rfl, hb⟩; refine ⟨_, rfl, ?_⟩; have n0_ := Aside0.mk (blk_below (g := gb200) (o := .cells #[.int .u32 a0_0, .int .u32 a0_1, .int .i64 a0_2, .int .u8 a0_3, .int .u8 a0_4, .int .u8 a0_5, .int .u8 a0_6, .int .u8 a0_7, .int .u8 a0_8] 35 (0, 0)) (by (with_reducible repeat (first | refine blk_drewN ?_ _ | refine blk_drew ?_ | refine blk_alloc ?_ _)); exact BK200.out) hb); have n1_ := Aside0.mk (below_step (by repeat (first | (with_reducible first | exact HB.out | apply below_alloc | apply pw_below_drewN | apply below_drew1 | refine below_set ?_ GE200.out) | exact HB.out)) hb); clear BK200; clear HB; have BK200 := n0_; have HB := n1_; clear n0_ n1_; (try clear hb); (try clear hb2); (try clear hk); (try clear hi)))
            go_ret
            exact ⟨by first | rfl | (simp [errW_none, errW_some] <;> rfl) | (simp [*, errW_none, errW_some] <;> rfl), by repeat (first | (with_reducible first | exact HB.out | apply below_alloc | apply pw_below_drewN | apply below_drew1 | refine below_set ?_ GE200.out) | exact HB.out)⟩
          · rw [if_neg c27] at H
            have c27b0 : (t209 != t210) = false := by simpa using c27
            (try (have c27b1 : decide (t209 = t210) = true := by simpa using c27))
            (try (have c27b2 : (t209 == t210) = true := by simpa using c27))
            clear c27
            replace H := Option.bind_eq_some_iff.mp H
            obtain ⟨t211, A320, H⟩ := H
            replace H : ((weftref1_Class.f a0_0).bind fun t212 => (some (t211 == t212))) = some r := H
            have A32 := Aside0.mk A320
            clear A320
            replace H := Option.bind_eq_some_iff.mp H
            obtain ⟨t212, A330, H⟩ := H
            replace H : (some (t211 == t212)) = some r := H
            have A33 := Aside0.mk A330
            clear A330
            obtain rfl := Option.some.inj H
            have hcz34_0 : wc.cell? ⟨gb200, 0, none⟩ = some (.int .u32 a0_0) := (blk_cell BK200.out 0).trans rfl
            have hcz34_1 : wc.cell? ⟨gb200, 1, none⟩ = some (.int .u32 a0_1) := (blk_cell BK200.out 1).trans rfl
            have hcz34_2 : wc.cell? ⟨gb200, 2, none⟩ = some (.int .i64 a0_2) := (blk_cell BK200.out 2).trans rfl
            have hcz34_3 : wc.cell? ⟨gb200, 3, none⟩ = some (.int .u8 a0_3) := (blk_cell BK200.out 3).trans rfl
            have hcz34_4 : wc.cell? ⟨gb200, 4, none⟩ = some (.int .u8 a0_4) := (blk_cell BK200.out 4).trans rfl
            have hcz34_5 : wc.cell? ⟨gb200, 5, none⟩ = some (.int .u8 a0_5) := (blk_cell BK200.out 5).trans rfl
            have hcz34_6 : wc.cell? ⟨gb200, 6, none⟩ = some (.int .u8 a0_6) := (blk_cell BK200.out 6).trans rfl
            have hcz34_7 : wc.cell? ⟨gb200, 7, none⟩ = some (.int .u8 a0_7) := (blk_cell BK200.out 7).trans rfl
            have hcz34_8 : wc.cell? ⟨gb200, 8, none⟩ = some (.int .u8 a0_8) := (blk_cell BK200.out 8).trans rfl
            have hfz34_0 := blk_frozen BK200.out 0
            have hfz34_1 := blk_frozen BK200.out 1
            have hfz34_2 := blk_frozen BK200.out 2
            have hfz34_3 := blk_frozen BK200.out 3
            have hfz34_4 := blk_frozen BK200.out 4
            have hfz34_5 := blk_frozen BK200.out 5
            have hfz34_6 := blk_frozen BK200.out 6
            have hfz34_7 := blk_frozen BK200.out 7
            have hfz34_8 := blk_frozen BK200.out 8
            go_wp2_with (first | ((with_reducible refine gate_callee (f := 28) rfl ?_); refine goesL_ (some 53) rfl rfl Tryd.func28 (by kernel_rfl) rfl #[.agg #[.int .u32 a0_1, .int .i64 a0_2], .int .u32 a0_0] rfl (by (try simp only [List.map_toArray, List.map_cons, List.map_nil]); first | done | rfl | (simp only [List.length_drop, List.length_take]; rfl)) ?_; (with_reducible refine (addr_Contains.calls kj11 a0_1 a0_2 a0_0 t209 _ A25.out).mono ?_); rintro e w35 ⟨rfl, hb⟩; refine ⟨_, rfl, ?_⟩; have n0_ := Aside0.mk (blk_below (g := gb200) (o := .cells #[.int .u32 a0_0, .int .u32 a0_1, .int .i64 a0_2, .int .u8 a0_3, .int .u8 a0_4, .int .u8 a0_5, .int .u8 a0_6, .int .u8 a0_7, .int .u8 a0_8] 35 (0, 0)) (by (with_reducible repeat (first | refine blk_drewN ?_ _ | refine blk_drew ?_ | refine blk_alloc ?_ _)); exact BK200.out) hb); have n1_ := Aside0.mk (below_step (by repeat (first | (with_reducible first | exact HB.out | apply below_alloc | apply pw_below_drewN | apply below_drew1 | refine below_set ?_ GE200.out) | exact HB.out)) hb); clear BK200; clear HB; have BK200 := n0_; have HB := n1_; clear n0_ n1_; (try clear hb); (try clear hb2); (try clear hk); (try clear hi); have hcz36_0 : w35.cell? ⟨gb200, 0, none⟩ = some (.int .u32 a0_0) := (blk_cell BK200.out 0).trans rfl; have hcz36_1 : w35.cell? ⟨gb200, 1, none⟩ = some (.int .u32 a0_1) := (blk_cell BK200.out 1).trans rfl; have hcz36_2 : w35.cell? ⟨gb200, 2, none⟩ = some (.int .i64 a0_2) := (blk_cell BK200.out 2).trans rfl; have hcz36_3 : w35.cell? ⟨gb200, 3, none⟩ = some (.int .u8 a0_3) := (blk_cell BK200.out 3).trans rfl; have hcz36_4 : w35.cell? ⟨gb200, 4, none⟩ = some (.int .u8 a0_4) := (blk_cell BK200.out 4).trans rfl; have hcz36_5 : w35.cell? ⟨gb200, 5, none⟩ = some (.int .u8 a0_5) := (blk_cell BK200.out 5).trans rfl; have hcz36_6 : w35.cell? ⟨gb200, 6, none⟩ = some (.int .u8 a0_6) := (blk_cell BK200.out 6).trans rfl; have hcz36_7 : w35.cell? ⟨gb200, 7, none⟩ = some (.int .u8 a0_7) := (blk_cell BK200.out 7).trans rfl; have hcz36_8 : w35.cell? ⟨gb200, 8, none⟩ = some (.int .u8 a0_8) := (blk_cell BK200.out 8).trans rfl; have hfz36_0 := blk_frozen BK200.out 0; have hfz36_1 := blk_frozen BK200.out 1; have hfz36_2 := blk_frozen BK200.out 2; have hfz36_3 := blk_frozen BK200.out 3; have hfz36_4 := blk_frozen BK200.out 4; have hfz36_5 := blk_frozen BK200.out 5; have hfz36_6 := blk_frozen BK200.out 6; have hfz36_7 := blk_frozen BK200.out 7; have hfz36_8 := blk_frozen BK200.out 8) | ((with_reducible refine gate_callee (f := 29) rfl ?_); refine goesL_ (some 58) rfl rfl Tryd.func29 (by kernel_rfl) rfl #[.agg #[.int .u32 a0_1, .int .i64 a0_2], .int .u32 a0_0] rfl (by (try simp only [List.map_toArray, List.map_cons, List.map_nil]); first | done | rfl | (simp only [List.length_drop, List.length_take]; rfl)) ?_; (with_reducible refine (weftref1_Contains.calls kj11 a0_1 a0_2 a0_0 t210 _ A26.out).mono ?_); rintro e w37 ⟨rfl, hb⟩; refine ⟨_, rfl, ?_⟩; have n0_ := Aside0.mk (blk_below (g := gb200) (o := .cells #[.int .u32 a0_0, .int .u32 a0_1, .int .i64 a0_2, .int .u8 a0_3, .int .u8 a0_4, .int .u8 a0_5, .int .u8 a0_6, .int .u8 a0_7, .int .u8 a0_8] 35 (0, 0)) (by (with_reducible repeat (first | refine blk_drewN ?_ _ | refine blk_drew ?_ | refine blk_alloc ?_ _)); exact BK200.out) hb); have n1_ := Aside0.mk (below_step (by repeat (first | (with_reducible first | exact HB.out | apply below_alloc | apply pw_below_drewN | apply below_drew1 | refine below_set ?_ GE200.out) | exact HB.out)) hb); clear BK200; clear HB; have BK200 := n0_; have HB := n1_; clear n0_ n1_; (try clear hb); (try clear hb2); (try clear hk); (try clear hi); have hcz38_0 : w37.cell? ⟨gb200, 0, none⟩ = some (.int .u32 a0_0) := (blk_cell BK200.out 0).trans rfl; have hcz38_1 : w37.cell? ⟨gb200, 1, none⟩ = some (.int .u32 a0_1) := (blk_cell BK200.out 1).trans rfl; have hcz38_2 : w37.cell? ⟨gb200, 2, none⟩ = some (.int .i64 a0_2) := (blk_cell BK200.out 2).trans rfl; have hcz38_3 : w37.cell? ⟨gb200, 3, none⟩ = some (.int .u8 a0_3) := (blk_cell BK200.out 3).trans rfl; have hcz38_4 : w37.cell? ⟨gb200, 4, none⟩ = some (.int .u8 a0_4) := (blk_cell BK200.out 4).trans rfl; have hcz38_5 : w37.cell? ⟨gb200, 5, none⟩ = some (.int .u8 a0_5) := (blk_cell BK200.out 5).trans rfl; have hcz38_6 : w37.cell? ⟨gb200, 6, none⟩ = some (.int .u8 a0_6) := (blk_cell BK200.out 6).trans rfl; have hcz38_7 : w37.cell? ⟨gb200, 7, none⟩ = some (.int .u8 a0_7) := (blk_cell BK200.out 7).trans rfl; have hcz38_8 : w37.cell? ⟨gb200, 8, none⟩ = some (.int .u8 a0_8) := (blk_cell BK200.out 8).trans rfl; have hfz38_0 := blk_frozen BK200.out 0; have hfz38_1 := blk_frozen BK200.out 1; have hfz38_2 := blk_frozen BK200.out 2; have hfz38_3 := blk_frozen BK200.out 3; have hfz38_4 := blk_frozen BK200.out 4; have hfz38_5 := blk_frozen BK200.out 5; have hfz38_6 := blk_frozen BK200.out 6; have hfz38_7 := blk_frozen BK200.out 7; have hfz38_8 := blk_frozen BK200.out 8) | ((with_reducible refine gate_callee (f := 30) rfl ?_); refine goesL_ (some 64) rfl rfl Tryd.func30 (by kernel_rfl) rfl #[.int .u32 a0_0] rfl (by (try simp only [List.map_toArray, List.map_cons, List.map_nil]); first | done | rfl | (simp only [List.length_drop, List.length_take]; rfl)) ?_; (with_reducible refine (addr_Class.calls a0_0 t211 _ (by first | exact HT.out | exact HT.out.on HB.out | exact HT.out.drewN _ | exact (HT.out.on HB.out).drewN _ | (refine HT.out.on ?_; repeat (first | (with_reducible first | exact HB.out | apply below_alloc | apply pw_below_drewN | apply below_drew1) | refine below_set ?_ (Aside0.out (by assumption)) | exact HB.out | exact Below.refl _ _))) A32.out).mono ?_); rintro e w39 ⟨rfl, hb⟩; refine ⟨_, rfl, ?_⟩; have n0_ := Aside0.mk (blk_below (g := gb200) (o := .cells #[.int .u32 a0_0, .int .u32 a0_1, .int .i64 a0_2, .int .u8 a0_3, .int .u8 a0_4, .int .u8 a0_5, .int .u8 a0_6, .int .u8 a0_7, .int .u8 a0_8] 35 (0, 0)) (by (with_reducible repeat (first | refine blk_drewN ?_ _ | refine blk_drew ?_ | refine blk_alloc ?_ _)); exact BK200.out) hb); have n1_ := Aside0.mk (below_step (by repeat (first | (with_reducible first | exact HB.out | apply below_alloc | apply pw_below_drewN | apply below_drew1 | refine below_set ?_ GE200.out) | exact HB.out)) hb); clear BK200; clear HB; have BK200 := n0_; have HB := n1_; clear n0_ n1_; (try clear hb); (try clear hb2); (try clear hk); (try clear hi); have hcz40_0 : w39.cell? ⟨gb200, 0, none⟩ = some (.int .u32 a0_0) := (blk_cell BK200.out 0).trans rfl; have hcz40_1 : w39.cell? ⟨gb200, 1, none⟩ = some (.int .u32 a0_1) := (blk_cell BK200.out 1).trans rfl; have hcz40_2 : w39.cell? ⟨gb200, 2, none⟩ = some (.int .i64 a0_2) := (blk_cell BK200.out 2).trans rfl; have hcz40_3 : w39.cell? ⟨gb200, 3, none⟩ = some (.int .u8 a0_3) := (blk_cell BK200.out 3).trans rfl; have hcz40_4 : w39.cell? ⟨gb200, 4, none⟩ = some (.int .u8 a0_4) := (blk_cell BK200.out 4).trans rfl; have hcz40_5 : w39.cell? ⟨gb200, 5, none⟩ = some (.int .u8 a0_5) := (blk_cell BK200.out 5).trans rfl; have hcz40_6 : w39.cell? ⟨gb200, 6, none⟩ = some (.int .u8 a0_6) := (blk_cell BK200.out 6).trans rfl; have hcz40_7 : w39.cell? ⟨gb200, 7, none⟩ = some (.int .u8 a0_7) := (blk_cell BK200.out 7).trans rfl; have hcz40_8 : w39.cell? ⟨gb200, 8, none⟩ = some (.int .u8 a0_8) := (blk_cell BK200.out 8).trans rfl; have hfz40_0 := blk_frozen BK200.out 0; have hfz40_1 := blk_frozen BK200.out 1; have hfz40_2 := blk_frozen BK200.out 2; have hfz40_3 := blk_frozen BK200.out 3; have hfz40_4 := blk_frozen BK200.out 4; have hfz40_5 := blk_frozen BK200.out 5; have hfz40_6 := blk_frozen BK200.out 6; have hfz40_7 := blk_frozen BK200.out 7; have hfz40_8 := blk_frozen BK200.out 8) | ((with_reducible refine gate_callee (f := 31) rfl ?_); refine goesL_ (some 67) rfl rfl Tryd.func31 (by kernel_rfl) rfl #[.int .u32 a0_0] rfl (by (try simp only [List.map_toArray, List.map_cons, List.map_nil]); first | done | rfl | (simp only [List.length_drop, List.length_take]; rfl)) ?_; (with_reducible refine (weftref1_Class.calls a0_0 t212 _ A33.out).mono ?_); rintro e w' ⟨rfl, ⟨nd, rfl⟩⟩; refine ⟨_, rfl, ?_⟩))
            go_ret
            exact ⟨by first | rfl | (simp [errW_none, errW_some] <;> rfl) | (simp [*, errW_none, errW_some] <;> rfl), by repeat (first | (with_reducible first | exact HB.out | apply below_alloc | apply pw_below_drewN | apply below_drew1 | refine below_set ?_ GE200.out) | exact HB.out)⟩

/-! ### weftlaw1_same: function 11 -/
def weftlaw1_same.l0 : Nat → List (S31) → List (S31) → Int → Option (Bool)
  | 0, _, _, _ => none
  | k + 1, x0, x1, x5 => if x5 < (x0.length : Int) then (if 0 ≤ x5 then (if x5 < (x1.length : Int) then (if (!(((rd_T31 x0 x5).f0) == ((rd_T31 x1 x5).f0)) || (!(((rd_T31 x0 x5).f1) == ((rd_T31 x1 x5).f1)))) = true then (some false) else (weftlaw1_same.l0 k x0 x1 (wrap64 (x5 + 1)))) else (none)) else (none)) else (some true)
def weftlaw1_same.f (k : Nat) (l0 : List (S31)) (l1 : List (S31)) : Option (Bool) := if (l0.length : Int) = (l1.length : Int) then (weftlaw1_same.l0 k l0 l1 0) else (some false)
theorem weftlaw1_same.mono_l : ∀ k, (∀ y0 y1 y2, LeO (weftlaw1_same.l0 k y0 y1 y2) (weftlaw1_same.l0 (k + 1) y0 y1 y2))
  | 0 => fun _ _ _ r h => by simp [weftlaw1_same.l0] at h
  | k + 1 => by
    have ih0 := weftlaw1_same.mono_l k
    · intro y0 y1 y2
      unfold weftlaw1_same.l0
      repeat' first
      | (with_reducible exact ih0 _ _ _)
      | (with_reducible exact LeO.refl _)
      | (with_reducible exact LeO.none _)
      | (with_reducible refine LeO.ite ?_ ?_)
      | (with_reducible refine LeO.bind ?_ (fun _ => ?_))
      | exact ih0 _ _ _
      | exact LeO.none _
      | refine LeO.ite ?_ ?_
      | refine LeO.bind ?_ (fun _ => ?_)
theorem weftlaw1_same.mono : ∀ a0 a1 k, LeO (weftlaw1_same.f k a0 a1) (weftlaw1_same.f (k + 1) a0 a1) := by
  intro a0 a1 k
  have ih0 := weftlaw1_same.mono_l k
  unfold weftlaw1_same.f
  repeat' first
      | (with_reducible exact ih0 _ _ _)
      | (with_reducible exact LeO.refl _)
      | (with_reducible exact LeO.none _)
      | (with_reducible refine LeO.ite ?_ ?_)
      | (with_reducible refine LeO.bind ?_ (fun _ => ?_))
      | exact ih0 _ _ _
      | exact LeO.none _
      | refine LeO.ite ?_ ?_
      | refine LeO.bind ?_ (fun _ => ?_)
set_option maxHeartbeats 8000000 in
set_option maxRecDepth 100000 in
theorem weftlaw1_same.calls (k : Nat) (A0 : Option Addr) (c0 : Nat) (l0 : List (S31)) (A1 : Option Addr) (c1 : Nat) (l1 : List (S31)) (r : Bool) (w : World) (hr0 : Kd.C k31 w A0 l0.length l0) (hc0 : l0.length ≤ c0) (hr1 : Kd.C k31 w A1 l1.length l1) (hc1 : l1.length ≤ c1) (h : weftlaw1_same.f k l0 l1 = some r) :
    Calls Tryd.prog 11 #[.slice A0 l0.length c0, .slice A1 l1.length c1] w fun e w' => e = .returned (.bool r) ∧ Drawn0 w w' := by
  have hu31 := Tryd.underlying31
  have HR0 := Aside0.mk hr0
  have HC0 := Aside0.mk hc0
  clear hr0 hc0
  have HR1 := Aside0.mk hr1
  have HC1 := Aside0.mk hc1
  clear hr1 hc1
  have H : (if (l0.length : Int) = (l1.length : Int) then (weftlaw1_same.l0 k l0 l1 0) else (some false)) = some r := h
  clear h
  by_cases c3 : (l0.length : Int) = (l1.length : Int)
  · rw [if_pos c3] at H
    have c3b0 : ((l0.length : Int) == (l1.length : Int)) = true := beq_iff_eq.mpr c3
    have c3b1 : ((l0.length : Int) != (l1.length : Int)) = false := bne_eq_false_iff_eq.mpr c3
    have c3b2 : (l0.length == l1.length) = true := by first | simpa using c3 | (simp at c3 ⊢; omega)
    clear c3
    have H' := Aside0.mk H
    clear H
    go_enter Tryd.func11, Tryd.ntmps11
    go_wp2
    repeat (go_quiet (fail); try go_wp2)
    go_loopg [5] k (fun kq v5 w' => ∃ (x5_1 : Int), v5 = .int .i64 x5_1 ∧ Aside0 (weftlaw1_same.l0 kq l0 l1 x5_1 = some r) ∧ Aside0 (kq ≤ k) ∧ Drawn0 w w')
    case atStart => exact ⟨(0), (by first | rfl | (simp; done) | (simp [*]; done)), H', ⟨Nat.le_refl _⟩, by repeat (first | exact Drawn0.refl _ | apply Drawn0.step)⟩
    case round =>
      clear H'
      try clear c1
      try clear p2
      try clear c3
      try clear c3b0
      try clear c3b1
      try clear c3b2
      obtain ⟨x5_1, rfl, HA, HK1, ⟨m1, rfl⟩⟩ := hrel
      cases gk with
      | zero => exact absurd HA.out (by simp [weftlaw1_same.l0])
      | succ k1 =>
        have H := HA.out
        clear HA
        simp only [weftlaw1_same.l0] at H
        by_cases c4 : x5_1 < (l0.length : Int)
        · rw [if_pos c4] at H
          have c4b0 : decide (x5_1 < (l0.length : Int)) = true := decide_eq_true c4
          clear c4
          by_cases c5 : 0 ≤ x5_1
          · rw [if_pos c5] at H
            have c5b0 : decide (0 ≤ x5_1) = true := decide_eq_true c5
            clear c5
            by_cases c6 : x5_1 < (l1.length : Int)
            · rw [if_pos c6] at H
              have c6b0 : decide (x5_1 < (l1.length : Int)) = true := decide_eq_true c6
              clear c6
              by_cases c7 : (!(((rd_T31 l0 x5_1).f0) == ((rd_T31 l1 x5_1).f0)) || (!(((rd_T31 l0 x5_1).f1) == ((rd_T31 l1 x5_1).f1)))) = true
              · rw [if_pos c7] at H
                have c7b0 : (!(((rd_T31 l0 x5_1).f0) == ((rd_T31 l1 x5_1).f0)) || (!(((rd_T31 l0 x5_1).f1) == ((rd_T31 l1 x5_1).f1)))) = true := c7
                clear c7
                obtain rfl := Option.some.inj H
                have p213 : 0 ≤ (x5_1 : Int) := of_decide_eq_true (by first | (with_reducible assumption) | assumption)
                have q213 : x5_1 < (l0.length : Int) := of_decide_eq_true (by first | (with_reducible assumption) | assumption)
                obtain ⟨ad213, e213, hx213_0, hx213_1⟩ := at_T31 HR0.out x5_1 p213 q213
                cases e213
                replace p213 := eq_true p213
                replace q213 := eq_true q213
                have p214 : 0 ≤ (x5_1 : Int) := of_decide_eq_true (by first | (with_reducible assumption) | assumption)
                have q214 : x5_1 < (l1.length : Int) := of_decide_eq_true (by first | (with_reducible assumption) | assumption)
                obtain ⟨ad214, e214, hx214_0, hx214_1⟩ := at_T31 HR1.out x5_1 p214 q214
                cases e214
                replace p214 := eq_true p214
                replace q214 := eq_true q214
                go_wp2
                repeat (go_quiet (fail); try go_wp2)
                go_ret
                exact ⟨by first | rfl | (simp; done) | (simp [*]; done), by repeat (first | exact Drawn0.refl _ | apply Drawn0.step)⟩
              · rw [if_neg c7] at H
                have c7b0 : (!(((rd_T31 l0 x5_1).f0) == ((rd_T31 l1 x5_1).f0)) || (!(((rd_T31 l0 x5_1).f1) == ((rd_T31 l1 x5_1).f1)))) = false := by simpa using c7
                clear c7
                have H' := Aside0.mk H
                clear H
                have p213 : 0 ≤ (x5_1 : Int) := of_decide_eq_true (by first | (with_reducible assumption) | assumption)
                have q213 : x5_1 < (l0.length : Int) := of_decide_eq_true (by first | (with_reducible assumption) | assumption)
                obtain ⟨ad213, e213, hx213_0, hx213_1⟩ := at_T31 HR0.out x5_1 p213 q213
                cases e213
                replace p213 := eq_true p213
                replace q213 := eq_true q213
                have p214 : 0 ≤ (x5_1 : Int) := of_decide_eq_true (by first | (with_reducible assumption) | assumption)
                have q214 : x5_1 < (l1.length : Int) := of_decide_eq_true (by first | (with_reducible assumption) | assumption)
                obtain ⟨ad214, e214, hx214_0, hx214_1⟩ := at_T31 HR1.out x5_1 p214 q214
                cases e214
                replace p214 := eq_true p214
                replace q214 := eq_true q214
                go_wp2
                repeat (go_quiet (fail); try go_wp2)
                go_roundg k1
                case measure => have := HK1.out; omega
                case rel => exact ⟨(wrap64 (x5_1 + 1)), (by first | rfl | (simp; done) | (simp [*]; done)), H', ⟨by have := HK1.out; omega⟩, by repeat (first | exact Drawn0.refl _ | apply Drawn0.step)⟩
            · rw [if_neg c6] at H
              exact absurd H (by simp)
          · rw [if_neg c5] at H
            exact absurd H (by simp)
        · rw [if_neg c4] at H
          have c4b0 : decide (x5_1 < (l0.length : Int)) = false := decide_eq_false c4
          clear c4
          obtain rfl := Option.some.inj H
          go_wp2
          repeat (go_quiet (fail); try go_wp2)
          go_ret
          exact ⟨by first | rfl | (simp; done) | (simp [*]; done), by repeat (first | exact Drawn0.refl _ | apply Drawn0.step)⟩
  · rw [if_neg c3] at H
    have c3b0 : ((l0.length : Int) == (l1.length : Int)) = false := beq_eq_false_iff_ne.mpr c3
    have c3b1 : ((l0.length : Int) != (l1.length : Int)) = true := bne_iff_ne.mpr c3
    have c3b2 : (l0.length == l1.length) = false := by first | simpa using c3 | (simp at c3 ⊢; omega)
    obtain rfl := Option.some.inj H
    go_enter Tryd.func11, Tryd.ntmps11
    go_wp2
    repeat (go_quiet (fail); try go_wp2)
    go_ret
    exact ⟨by first | rfl | (simp; done) | (simp [*]; done), by repeat (first | exact Drawn0.refl _ | apply Drawn0.step)⟩

/-! ### addr_Cover: function 32 -/
mutual
def addr_Cover.l0 : Nat → Int → Int → List (S31) → Option ((List (S31)))
  | 0, _, _, _ => none
  | k + 1, x0, x1, x5 => if x0 ≤ x1 then (addr_Cover.l1 k x0 x1 x5 x0 32) else (some x5)
def addr_Cover.j2 : Nat → Int → List (S31) → Int → Int → Option ((List (S31)))
  | 0, _, _, _, _ => none
  | k + 1, x1, x5, x216000, x216001 => if x5.length < 8796093022208 then ((some (x5 ++ [(⟨x216000, x216001⟩ : S31)] : List (S31))).bind fun y219 => ((addr_last.f x216000 x216001).bind fun t222 => (if t222 = 4294967295 then (some y219) else ((addr_last.f x216000 x216001).bind fun t223 => (addr_Cover.l0 k ((t223 + 1) % 4294967296) x1 y219))))) else (none)
def addr_Cover.l1 : Nat → Int → Int → List (S31) → Int → Int → Option ((List (S31)))
  | 0, _, _, _, _, _ => none
  | k + 1, x0, x1, x5, x216000, x216001 => if x216001 > 0 then ((addr_Valid.f k x0 (wrap64 (x216001 - 1))).bind fun t217 => (if t217 = true then ((addr_last.f x0 (wrap64 (x216001 - 1))).bind fun t218 => (if t218 > x1 then (addr_Cover.j2 k x1 x5 x216000 x216001) else (addr_Cover.l1 k x0 x1 x5 x0 (wrap64 (x216001 - 1))))) else (addr_Cover.j2 k x1 x5 x216000 x216001))) else (addr_Cover.j2 k x1 x5 x216000 x216001)
end
def addr_Cover.f (k : Nat) (a0 : Int) (a1 : Int) : Option ((List (S31))) := addr_Cover.l0 k a0 a1 ([] : List (S31))
theorem addr_Cover.mono_l : ∀ k, (∀ y0 y1 y2, LeO (addr_Cover.l0 k y0 y1 y2) (addr_Cover.l0 (k + 1) y0 y1 y2)) ∧ (∀ y0 y1 y2 y3, LeO (addr_Cover.j2 k y0 y1 y2 y3) (addr_Cover.j2 (k + 1) y0 y1 y2 y3)) ∧ (∀ y0 y1 y2 y3 y4, LeO (addr_Cover.l1 k y0 y1 y2 y3 y4) (addr_Cover.l1 (k + 1) y0 y1 y2 y3 y4))
  | 0 => ⟨fun _ _ _ r h => by simp [addr_Cover.l0] at h, fun _ _ _ _ r h => by simp [addr_Cover.j2] at h, fun _ _ _ _ _ r h => by simp [addr_Cover.l1] at h⟩
  | k + 1 => by
    obtain ⟨ih0, ih1, ih2⟩ := addr_Cover.mono_l k
    refine ⟨?_, ?_, ?_⟩
    · intro y0 y1 y2
      unfold addr_Cover.l0
      repeat' first
      | (with_reducible exact ih0 _ _ _)
      | (with_reducible exact ih1 _ _ _ _)
      | (with_reducible exact ih2 _ _ _ _ _)
      | (with_reducible exact addr_Valid.mono _ _ _)
      | (with_reducible exact LeO.refl _)
      | (with_reducible exact LeO.none _)
      | (with_reducible refine LeO.ite ?_ ?_)
      | (with_reducible refine LeO.bind ?_ (fun _ => ?_))
      | exact ih0 _ _ _
      | exact ih1 _ _ _ _
      | exact ih2 _ _ _ _ _
      | exact addr_Valid.mono _ _ _
      | exact LeO.none _
      | refine LeO.ite ?_ ?_
      | refine LeO.bind ?_ (fun _ => ?_)
    · intro y0 y1 y2 y3
      unfold addr_Cover.j2
      repeat' first
      | (with_reducible exact ih0 _ _ _)
      | (with_reducible exact ih1 _ _ _ _)
      | (with_reducible exact ih2 _ _ _ _ _)
      | (with_reducible exact addr_Valid.mono _ _ _)
      | (with_reducible exact LeO.refl _)
      | (with_reducible exact LeO.none _)
      | (with_reducible refine LeO.ite ?_ ?_)
      | (with_reducible refine LeO.bind ?_ (fun _ => ?_))
      | exact ih0 _ _ _
      | exact ih1 _ _ _ _
      | exact ih2 _ _ _ _ _
      | exact addr_Valid.mono _ _ _
      | exact LeO.none _
      | refine LeO.ite ?_ ?_
      | refine LeO.bind ?_ (fun _ => ?_)
    · intro y0 y1 y2 y3 y4
      unfold addr_Cover.l1
      repeat' first
      | (with_reducible exact ih0 _ _ _)
      | (with_reducible exact ih1 _ _ _ _)
      | (with_reducible exact ih2 _ _ _ _ _)
      | (with_reducible exact addr_Valid.mono _ _ _)
      | (with_reducible exact LeO.refl _)
      | (with_reducible exact LeO.none _)
      | (with_reducible refine LeO.ite ?_ ?_)
      | (with_reducible refine LeO.bind ?_ (fun _ => ?_))
      | exact ih0 _ _ _
      | exact ih1 _ _ _ _
      | exact ih2 _ _ _ _ _
      | exact addr_Valid.mono _ _ _
      | exact LeO.none _
      | refine LeO.ite ?_ ?_
      | refine LeO.bind ?_ (fun _ => ?_)
theorem addr_Cover.mono : ∀ a0 a1 k, LeO (addr_Cover.f k a0 a1) (addr_Cover.f (k + 1) a0 a1) := by
  intro a0 a1 k
  obtain ⟨ih0, ih1, ih2⟩ := addr_Cover.mono_l k
  unfold addr_Cover.f
  repeat' first
      | (with_reducible exact ih0 _ _ _)
      | (with_reducible exact ih1 _ _ _ _)
      | (with_reducible exact ih2 _ _ _ _ _)
      | (with_reducible exact addr_Valid.mono _ _ _)
      | (with_reducible exact LeO.refl _)
      | (with_reducible exact LeO.none _)
      | (with_reducible refine LeO.ite ?_ ?_)
      | (with_reducible refine LeO.bind ?_ (fun _ => ?_))
      | exact ih0 _ _ _
      | exact ih1 _ _ _ _
      | exact ih2 _ _ _ _ _
      | exact addr_Valid.mono _ _ _
      | exact LeO.none _
      | refine LeO.ite ?_ ?_
      | refine LeO.bind ?_ (fun _ => ?_)
set_option maxHeartbeats 8000000 in
set_option maxRecDepth 100000 in
theorem addr_Cover.calls (k : Nat) (a0 : Int) (a1 : Int) (r : List (S31)) (w : World) (h : addr_Cover.f k a0 a1 = some r) :
    Calls Tryd.prog 32 #[.int .u32 a0, .int .u32 a1] w fun e w' => ∃ v0_ : Value, e = .returned (v0_) ∧ Kd.R k31 31 w' w.heap.size (fun _ => True) v0_ r ∧ Below w.heap.size w w' := by
  have hu31 := Tryd.underlying31
  have HB := Aside0.mk (Below.refl w.heap.size w)
  have H : (addr_Cover.l0 k a0 a1 ([] : List (S31))) = some r := h
  clear h
  have H' := Aside0.mk H
  clear H
  go_enter Tryd.func32, Tryd.ntmps32
  go_wp2
  go_loopg [0, 5] k (fun kq v0 v5 w' => ∃ (x0_1 : Int) (x5_1 : List (S31)), v0 = .int .u32 x0_1 ∧ Aside0 (addr_Cover.l0 kq x0_1 a1 x5_1 = some r) ∧ Aside0 (kq ≤ k) ∧ Aside0 (Kd.R k31 31 w' w.heap.size (fun _ => True) v5 x5_1) ∧ Aside0 (Below w.heap.size w w'))
  case atStart => exact ⟨(a0), (([] : List (S31))), (by first | rfl | (simp; done) | (simp [*]; done)), H', ⟨Nat.le_refl _⟩, ⟨by first | exact Kd.R_nil _ _ _ _ _ | exact Kd.N_nil _ _ _ _ _ | exact Kd.V_nil _ _ _ _ _ | exact Kd.Q_nil _ _ _ _ _ | exact Kd.S_nil _ _ _ _ _⟩, ⟨by repeat (first | (with_reducible first | exact HB.out | apply below_alloc | apply pw_below_drewN | apply below_drew1) | exact HB.out)⟩⟩
  case round =>
    clear H'
    try clear p2
    obtain ⟨x0_1, x5_1, rfl, HA, HK1, HO_5, HB⟩ := hrel
    cases gk with
    | zero => exact absurd HA.out (by simp [addr_Cover.l0])
    | succ k1 =>
      have H := HA.out
      clear HA
      simp only [addr_Cover.l0] at H
      by_cases c3 : x0_1 ≤ a1
      · rw [if_pos c3] at H
        have c3b0 : decide (x0_1 ≤ a1) = true := decide_eq_true c3
        clear c3
        have HC4 := Aside0.mk H
        clear H
        go_upto_block 2 with (first | ((with_reducible refine gate_dst (N := 6) rfl ?_); refine box_event ?hg (N := 6) ?hd (cs := #[.int .u32 0, .int .i64 0]) (t := 31) ?hr ?_; (case hd => rfl); (case hg => rfl); (case hr => first | (go_simp; done) | (go_simp; rfl)); intro gb215 hg w5 hbox hb; have n0_ := Aside0.mk (Kd.R_below (Kd.R_elderB (by (with_reducible repeat (first | apply Kd.R_alloc | apply Kd.R_drewN | apply Kd.R_drew)); exact HO_5.out) gb215 (Nat.le_of_eq hg.symm)) hb); have n1_ := Aside0.mk (below_step (by repeat (first | (with_reducible first | exact HB.out | apply below_alloc | apply pw_below_drewN | apply below_drew1) | exact HB.out)) hb); have n2_ := Aside0.mk (hbox); have n3_ := Aside0.mk ((by rw [hg]; exact (below_size (by repeat (first | (with_reducible first | exact HB.out | apply below_alloc | apply pw_below_drewN | apply below_drew1) | exact HB.out))) : w.heap.size ≤ gb215)); have n4_ := Aside0.mk ((by rw [hg]; exact (below_size (by repeat (first | (with_reducible first | exact HB.out | apply below_alloc | apply pw_below_drewN | apply below_drew1) | exact HB.out))) : w.heap.size ≤ gb215)); clear HO_5; clear HB; have HO_5 := n0_; have HB := n1_; have BK215 := n2_; have GW215 := n3_; have GE215 := n4_; clear n0_ n1_ n2_ n3_ n4_; clear hb hbox hg; have hcz6_0 : w5.cell? ⟨gb215, 0, none⟩ = some (.int .u32 0) := (blk_cell BK215.out 0).trans rfl; have hcz6_1 : w5.cell? ⟨gb215, 1, none⟩ = some (.int .i64 0) := (blk_cell BK215.out 1).trans rfl; have hfz6_0 := blk_frozen BK215.out 0; have hfz6_1 := blk_frozen BK215.out 1))
        (try simp only [Act.put, List.setIfInBounds_toArray, List.set_cons_zero, List.set_cons_succ])
        go_cut [] (fun wc => ∃ (kq : Nat) (x216000_3 : Int) (x216001_3 : Int), Aside0 (addr_Cover.j2 kq a1 x5_1 x216000_3 x216001_3 = some r) ∧ Aside0 (kq ≤ k1) ∧ Aside0 (Kd.R k31 31 wc w.heap.size (fun k_ => k_ ≠ gb215) u5 x5_1) ∧ Aside0 (wc.heap[gb215]? = some (.cells #[.int .u32 x216000_3, .int .i64 x216001_3] 31 (0, 0))) ∧ Aside0 (Below w.heap.size w wc))
        case first =>
          have H := HC4.out
          clear HC4
          have H' := Aside0.mk H
          clear H
          go_wp2
          go_loopg [] k1 (fun kq w' => ∃ (x216000_2 : Int) (x216001_2 : Int), Aside0 (addr_Cover.l1 kq x0_1 a1 x5_1 x216000_2 x216001_2 = some r) ∧ Aside0 (kq ≤ k1) ∧ Aside0 (Kd.R k31 31 w' w.heap.size (fun k_ => k_ ≠ gb215) u5 x5_1) ∧ Aside0 (w'.heap[gb215]? = some (.cells #[.int .u32 x216000_2, .int .i64 x216001_2] 31 (0, 0))) ∧ Aside0 (Below w.heap.size w w'))
          case atStart => exact ⟨(x0_1), (32), H', ⟨Nat.le_refl _⟩, ⟨by (with_reducible repeat (first | apply Kd.R_alloc | apply Kd.R_drewN | apply Kd.R_drew)); exact Kd.R_mono (Kd.R_far (p := ⟨gb215, 1, none⟩) (Kd.R_far (p := ⟨gb215, 0, none⟩) (Kd.R_mono HO_5.out (fun k_ hk => (⟨hk, hk.2⟩ : _ ∧ k_ ≠ gb215))) (fun _ hk => hk.2) (.int .u32 x0_1)) (fun _ hk => hk.2) (.int .i64 32)) (fun _ hk => hk.1.2)⟩, ⟨by (with_reducible repeat (first | refine blk_drewN ?_ _ | refine blk_drew ?_ | refine blk_alloc ?_ _)); refine blk_put (cs := #[.int .u32 x0_1, .int .i64 0]) ?_ 1 _ rfl; (with_reducible repeat (first | refine blk_drewN ?_ _ | refine blk_drew ?_ | refine blk_alloc ?_ _)); refine blk_put (cs := #[.int .u32 0, .int .i64 0]) ?_ 0 _ rfl; (with_reducible repeat (first | refine blk_drewN ?_ _ | refine blk_drew ?_ | refine blk_alloc ?_ _)); exact BK215.out⟩, ⟨by repeat (first | (with_reducible first | exact HB.out | apply below_alloc | apply pw_below_drewN | apply below_drew1 | refine below_set ?_ GE215.out) | exact HB.out)⟩⟩
          case round =>
            clear H'
            try clear p2
            try clear c3
            try clear c3b0
            try clear hcz6_0
            try clear hcz6_1
            try clear hfz6_0
            try clear hfz6_1
            try clear p2
            obtain ⟨x216000_2, x216001_2, HA, HK2, HO_5, BK215, HB⟩ := hrel
            cases gk with
            | zero => exact absurd HA.out (by simp [addr_Cover.l1])
            | succ k2 =>
              have H := HA.out
              clear HA
              simp only [addr_Cover.l1] at H
              by_cases c7 : x216001_2 > 0
              · rw [if_pos c7] at H
                have c7b0 : decide (0 < x216001_2) = true := decide_eq_true c7
                clear c7
                (first | rw [c7b0] | (simp only [i64_w, i32_w]; rw [c7b0]) | skip)
                replace H := Option.bind_eq_some_iff.mp H
                obtain ⟨t217, A80, H⟩ := H
                replace H : (if t217 = true then ((addr_last.f x0_1 (wrap64 (x216001_2 - 1))).bind fun t218 => (if t218 > a1 then (addr_Cover.j2 k2 a1 x5_1 x216000_2 x216001_2) else (addr_Cover.l1 k2 x0_1 a1 x5_1 x0_1 (wrap64 (x216001_2 - 1))))) else (addr_Cover.j2 k2 a1 x5_1 x216000_2 x216001_2)) = some r := H
                have A8 := Aside0.mk A80
                clear A80
                by_cases c9 : t217 = true
                · subst c9
                  have H1 : ((addr_last.f x0_1 (wrap64 (x216001_2 - 1))).bind fun t218 => (if t218 > a1 then (addr_Cover.j2 k2 a1 x5_1 x216000_2 x216001_2) else (addr_Cover.l1 k2 x0_1 a1 x5_1 x0_1 (wrap64 (x216001_2 - 1))))) = some r := by rw [if_pos rfl] at H; exact H
                  clear H
                  have H := H1
                  clear H1
                  replace H := Option.bind_eq_some_iff.mp H
                  obtain ⟨t218, A100, H⟩ := H
                  replace H : (if t218 > a1 then (addr_Cover.j2 k2 a1 x5_1 x216000_2 x216001_2) else (addr_Cover.l1 k2 x0_1 a1 x5_1 x0_1 (wrap64 (x216001_2 - 1)))) = some r := H
                  have A10 := Aside0.mk A100
                  clear A100
                  by_cases c11 : t218 > a1
                  · rw [if_pos c11] at H
                    have c11b0 : decide (a1 < t218) = true := decide_eq_true c11
                    clear c11
                    have H' := Aside0.mk H
                    clear H
                    have hcz12_0 : wr.cell? ⟨gb215, 0, none⟩ = some (.int .u32 x216000_2) := (blk_cell BK215.out 0).trans rfl
                    have hcz12_1 : wr.cell? ⟨gb215, 1, none⟩ = some (.int .i64 x216001_2) := (blk_cell BK215.out 1).trans rfl
                    have hfz12_0 := blk_frozen BK215.out 0
                    have hfz12_1 := blk_frozen BK215.out 1
                    go_wp2_with (first | ((with_reducible refine gate_dst (N := 7) rfl ?_); refine box_event ?hg (N := 7) ?hd (cs := #[.int .u32 0, .int .i64 0]) (t := 31) ?hr ?_; (case hd => rfl); (case hg => rfl); (case hr => first | (go_simp; done) | (go_simp; rfl)); intro gb216 hg w13 hbox hb; have n0_ := Aside0.mk (Kd.R_below (Kd.R_elderB (by (with_reducible repeat (first | apply Kd.R_alloc | apply Kd.R_drewN | apply Kd.R_drew)); exact HO_5.out) gb216 (Nat.le_of_eq hg.symm)) hb); have n1_ := Aside0.mk (blk_below (g := gb215) (o := .cells #[.int .u32 x216000_2, .int .i64 x216001_2] 31 (0, 0)) (by (with_reducible repeat (first | refine blk_drewN ?_ _ | refine blk_drew ?_ | refine blk_alloc ?_ _)); exact BK215.out) hb); have n2_ := Aside0.mk (below_step (by repeat (first | (with_reducible first | exact HB.out | apply below_alloc | apply pw_below_drewN | apply below_drew1 | refine below_set ?_ GE215.out) | exact HB.out)) hb); have n3_ := Aside0.mk (hbox); have n4_ := Aside0.mk ((by rw [hg]; exact (below_size (by repeat (first | (with_reducible first | exact HB.out | apply below_alloc | apply pw_below_drewN | apply below_drew1 | refine below_set ?_ GE215.out) | exact HB.out))) : w.heap.size ≤ gb216)); have n5_ := Aside0.mk ((by rw [hg]; exact (below_size (by repeat (first | (with_reducible first | exact HB.out | apply below_alloc | apply pw_below_drewN | apply below_drew1 | refine below_set ?_ GE215.out) | exact HB.out))) : w.heap.size ≤ gb216)); have n6_ := Aside0.mk ((by rw [hg]; exact Nat.ne_of_lt (blk_lt (g := gb215) (o := .cells #[.int .u32 x216000_2, .int .i64 x216001_2] 31 (0, 0)) (by (with_reducible repeat (first | refine blk_drewN ?_ _ | refine blk_drew ?_ | refine blk_alloc ?_ _)); exact BK215.out)) : gb215 ≠ gb216)); have n7_ := Aside0.mk ((by rw [hg]; exact Nat.ne_of_gt (blk_lt (g := gb215) (o := .cells #[.int .u32 x216000_2, .int .i64 x216001_2] 31 (0, 0)) (by (with_reducible repeat (first | refine blk_drewN ?_ _ | refine blk_drew ?_ | refine blk_alloc ?_ _)); exact BK215.out)) : gb216 ≠ gb215)); clear HO_5; clear BK215; clear HB; have HO_5 := n0_; have BK215 := n1_; have HB := n2_; have BK216 := n3_; have GW216 := n4_; have GE216 := n5_; have NB215_216 := n6_; have NB216_215 := n7_; clear n0_ n1_ n2_ n3_ n4_ n5_ n6_ n7_; clear hb hbox hg; have hnb14 := NB216_215.out; have hnc14 := NB215_216.out; have hcz15_0 : w13.cell? ⟨gb216, 0, none⟩ = some (.int .u32 0) := (blk_cell BK216.out 0).trans rfl; have hcz15_1 : w13.cell? ⟨gb216, 1, none⟩ = some (.int .i64 0) := (blk_cell BK216.out 1).trans rfl; have hfz15_0 := blk_frozen BK216.out 0; have hfz15_1 := blk_frozen BK216.out 1) | ((with_reducible refine gate_callee (f := 24) rfl ?_); refine goesL_ (some 22) rfl rfl Tryd.func24 (by kernel_rfl) rfl #[.agg #[.int .u32 x0_1, .int .i64 (wrap64 (x216001_2 - 1))]] rfl (by (try simp only [List.map_toArray, List.map_cons, List.map_nil]); first | done | rfl | (simp only [List.length_drop, List.length_take]; rfl)) ?_; (with_reducible refine (addr_Valid.calls k2 x0_1 (wrap64 (x216001_2 - 1)) true _ A8.out).mono ?_); rintro e w16 ⟨rfl, hb⟩; refine ⟨_, rfl, ?_⟩; have n0_ := Aside0.mk (Kd.R_below (by (with_reducible repeat (first | apply Kd.R_alloc | apply Kd.R_drewN | apply Kd.R_drew)); exact (Kd.R_mono (Kd.R_far (p := ⟨gb216, 1, none⟩) (Kd.R_far (p := ⟨gb216, 0, none⟩) (Kd.R_mono HO_5.out (fun k_ hk => (⟨hk, hk.2⟩ : _ ∧ k_ ≠ gb216))) (fun _ hk => hk.2) (.int .u32 x0_1)) (fun _ hk => hk.2) (.int .i64 (wrap64 (x216001_2 - 1)))) (fun _ h_ => h_.1))) hb); have n1_ := Aside0.mk (blk_below (g := gb215) (o := .cells #[.int .u32 x216000_2, .int .i64 x216001_2] 31 (0, 0)) (by (with_reducible repeat (first | refine blk_drewN ?_ _ | refine blk_drew ?_ | refine blk_alloc ?_ _)); refine blk_far ?_ NB215_216.out _; (with_reducible repeat (first | refine blk_drewN ?_ _ | refine blk_drew ?_ | refine blk_alloc ?_ _)); refine blk_far ?_ NB215_216.out _; (with_reducible repeat (first | refine blk_drewN ?_ _ | refine blk_drew ?_ | refine blk_alloc ?_ _)); exact BK215.out) hb); have n2_ := Aside0.mk (blk_below (g := gb216) (o := .cells #[.int .u32 x0_1, .int .i64 (wrap64 (x216001_2 - 1))] 31 (0, 0)) (by (with_reducible repeat (first | refine blk_drewN ?_ _ | refine blk_drew ?_ | refine blk_alloc ?_ _)); refine blk_put (cs := #[.int .u32 x0_1, .int .i64 0]) ?_ 1 _ rfl; (with_reducible repeat (first | refine blk_drewN ?_ _ | refine blk_drew ?_ | refine blk_alloc ?_ _)); refine blk_put (cs := #[.int .u32 0, .int .i64 0]) ?_ 0 _ rfl; (with_reducible repeat (first | refine blk_drewN ?_ _ | refine blk_drew ?_ | refine blk_alloc ?_ _)); exact BK216.out) hb); have n3_ := Aside0.mk (below_step (by repeat (first | (with_reducible first | exact HB.out | apply below_alloc | apply pw_below_drewN | apply below_drew1 | refine below_set ?_ GE215.out | refine below_set ?_ GE216.out) | exact HB.out)) hb); clear HO_5; clear BK215; clear BK216; clear HB; have HO_5 := n0_; have BK215 := n1_; have BK216 := n2_; have HB := n3_; clear n0_ n1_ n2_ n3_; (try clear hb); (try clear hb2); (try clear hk); (try clear hi); have hcz17_0 : w16.cell? ⟨gb216, 0, none⟩ = some (.int .u32 x0_1) := (blk_cell BK216.out 0).trans rfl; have hcz17_1 : w16.cell? ⟨gb216, 1, none⟩ = some (.int .i64 (wrap64 (x216001_2 - 1))) := (blk_cell BK216.out 1).trans rfl; have hfz17_0 := blk_frozen BK216.out 0; have hfz17_1 := blk_frozen BK216.out 1) | (go_at_call 46; (with_reducible refine (addr_last.calls x0_1 (wrap64 (x216001_2 - 1)) t218 _ A10.out).mono ?_); rintro e w18 ⟨rfl, hb⟩; have n0_ := Aside0.mk (Kd.R_below (by (with_reducible repeat (first | apply Kd.R_alloc | apply Kd.R_drewN | apply Kd.R_drew)); exact HO_5.out) hb); have n1_ := Aside0.mk (blk_below (g := gb215) (o := .cells #[.int .u32 x216000_2, .int .i64 x216001_2] 31 (0, 0)) (by (with_reducible repeat (first | refine blk_drewN ?_ _ | refine blk_drew ?_ | refine blk_alloc ?_ _)); exact BK215.out) hb); have n2_ := Aside0.mk (blk_below (g := gb216) (o := .cells #[.int .u32 x0_1, .int .i64 (wrap64 (x216001_2 - 1))] 31 (0, 0)) (by (with_reducible repeat (first | refine blk_drewN ?_ _ | refine blk_drew ?_ | refine blk_alloc ?_ _)); exact BK216.out) hb); have n3_ := Aside0.mk (below_step (by repeat (first | (with_reducible first | exact HB.out | apply below_alloc | apply pw_below_drewN | apply below_drew1 | refine below_set ?_ GE215.out | refine below_set ?_ GE216.out) | exact HB.out)) hb); clear HO_5; clear BK215; clear BK216; clear HB; have HO_5 := n0_; have BK215 := n1_; have BK216 := n2_; have HB := n3_; clear n0_ n1_ n2_ n3_; (try clear hb); (try clear hb2); (try clear hk); (try clear hi)))
                    go_meet
                    case rel => exact ⟨_, (x216000_2), (x216001_2), H', ⟨by have := HK1.out; have := HK2.out; first | omega | exact Nat.le_refl _⟩, ⟨by (with_reducible repeat (first | apply Kd.R_alloc | apply Kd.R_drewN | apply Kd.R_drew)); exact Kd.R_mono HO_5.out (fun _ hk => hk.1)⟩, ⟨by (with_reducible repeat (first | refine blk_drewN ?_ _ | refine blk_drew ?_ | refine blk_alloc ?_ _)); exact BK215.out⟩, ⟨by repeat (first | (with_reducible first | exact HB.out | apply below_alloc | apply pw_below_drewN | apply below_drew1 | refine below_set ?_ GE215.out | refine below_set ?_ GE216.out) | exact HB.out)⟩⟩
                  · rw [if_neg c11] at H
                    have c11b0 : decide (a1 < t218) = false := decide_eq_false c11
                    clear c11
                    have H' := Aside0.mk H
                    clear H
                    have hcz19_0 : wr.cell? ⟨gb215, 0, none⟩ = some (.int .u32 x216000_2) := (blk_cell BK215.out 0).trans rfl
                    have hcz19_1 : wr.cell? ⟨gb215, 1, none⟩ = some (.int .i64 x216001_2) := (blk_cell BK215.out 1).trans rfl
                    have hfz19_0 := blk_frozen BK215.out 0
                    have hfz19_1 := blk_frozen BK215.out 1
                    go_wp2_with (first | ((with_reducible refine gate_dst (N := 7) rfl ?_); refine box_event ?hg (N := 7) ?hd (cs := #[.int .u32 0, .int .i64 0]) (t := 31) ?hr ?_; (case hd => rfl); (case hg => rfl); (case hr => first | (go_simp; done) | (go_simp; rfl)); intro gb216 hg w20 hbox hb; have n0_ := Aside0.mk (Kd.R_below (Kd.R_elderB (by (with_reducible repeat (first | apply Kd.R_alloc | apply Kd.R_drewN | apply Kd.R_drew)); exact HO_5.out) gb216 (Nat.le_of_eq hg.symm)) hb); have n1_ := Aside0.mk (blk_below (g := gb215) (o := .cells #[.int .u32 x216000_2, .int .i64 x216001_2] 31 (0, 0)) (by (with_reducible repeat (first | refine blk_drewN ?_ _ | refine blk_drew ?_ | refine blk_alloc ?_ _)); exact BK215.out) hb); have n2_ := Aside0.mk (below_step (by repeat (first | (with_reducible first | exact HB.out | apply below_alloc | apply pw_below_drewN | apply below_drew1 | refine below_set ?_ GE215.out) | exact HB.out)) hb); have n3_ := Aside0.mk (hbox); have n4_ := Aside0.mk ((by rw [hg]; exact (below_size (by repeat (first | (with_reducible first | exact HB.out | apply below_alloc | apply pw_below_drewN | apply below_drew1 | refine below_set ?_ GE215.out) | exact HB.out))) : w.heap.size ≤ gb216)); have n5_ := Aside0.mk ((by rw [hg]; exact (below_size (by repeat (first | (with_reducible first | exact HB.out | apply below_alloc | apply pw_below_drewN | apply below_drew1 | refine below_set ?_ GE215.out) | exact HB.out))) : w.heap.size ≤ gb216)); have n6_ := Aside0.mk ((by rw [hg]; exact Nat.ne_of_lt (blk_lt (g := gb215) (o := .cells #[.int .u32 x216000_2, .int .i64 x216001_2] 31 (0, 0)) (by (with_reducible repeat (first | refine blk_drewN ?_ _ | refine blk_drew ?_ | refine blk_alloc ?_ _)); exact BK215.out)) : gb215 ≠ gb216)); have n7_ := Aside0.mk ((by rw [hg]; exact Nat.ne_of_gt (blk_lt (g := gb215) (o := .cells #[.int .u32 x216000_2, .int .i64 x216001_2] 31 (0, 0)) (by (with_reducible repeat (first | refine blk_drewN ?_ _ | refine blk_drew ?_ | refine blk_alloc ?_ _)); exact BK215.out)) : gb216 ≠ gb215)); clear HO_5; clear BK215; clear HB; have HO_5 := n0_; have BK215 := n1_; have HB := n2_; have BK216 := n3_; have GW216 := n4_; have GE216 := n5_; have NB215_216 := n6_; have NB216_215 := n7_; clear n0_ n1_ n2_ n3_ n4_ n5_ n6_ n7_; clear hb hbox hg; have hnb21 := NB216_215.out; have hnc21 := NB215_216.out; have hcz22_0 : w20.cell? ⟨gb216, 0, none⟩ = some (.int .u32 0) := (blk_cell BK216.out 0).trans rfl; have hcz22_1 : w20.cell? ⟨gb216, 1, none⟩ = some (.int .i64 0) := (blk_cell BK216.out 1).trans rfl; have hfz22_0 := blk_frozen BK216.out 0; have hfz22_1 := blk_frozen BK216.out 1) | ((with_reducible refine gate_callee (f := 24) rfl ?_); refine goesL_ (some 22) rfl rfl Tryd.func24 (by kernel_rfl) rfl #[.agg #[.int .u32 x0_1, .int .i64 (wrap64 (x216001_2 - 1))]] rfl (by (try simp only [List.map_toArray, List.map_cons, List.map_nil]); first | done | rfl | (simp only [List.length_drop, List.length_take]; rfl)) ?_; (with_reducible refine (addr_Valid.calls k2 x0_1 (wrap64 (x216001_2 - 1)) true _ A8.out).mono ?_); rintro e w23 ⟨rfl, hb⟩; refine ⟨_, rfl, ?_⟩; have n0_ := Aside0.mk (Kd.R_below (by (with_reducible repeat (first | apply Kd.R_alloc | apply Kd.R_drewN | apply Kd.R_drew)); exact (Kd.R_mono (Kd.R_far (p := ⟨gb216, 1, none⟩) (Kd.R_far (p := ⟨gb216, 0, none⟩) (Kd.R_mono HO_5.out (fun k_ hk => (⟨hk, hk.2⟩ : _ ∧ k_ ≠ gb216))) (fun _ hk => hk.2) (.int .u32 x0_1)) (fun _ hk => hk.2) (.int .i64 (wrap64 (x216001_2 - 1)))) (fun _ h_ => h_.1))) hb); have n1_ := Aside0.mk (blk_below (g := gb215) (o := .cells #[.int .u32 x216000_2, .int .i64 x216001_2] 31 (0, 0)) (by (with_reducible repeat (first | refine blk_drewN ?_ _ | refine blk_drew ?_ | refine blk_alloc ?_ _)); refine blk_far ?_ NB215_216.out _; (with_reducible repeat (first | refine blk_drewN ?_ _ | refine blk_drew ?_ | refine blk_alloc ?_ _)); refine blk_far ?_ NB215_216.out _; (with_reducible repeat (first | refine blk_drewN ?_ _ | refine blk_drew ?_ | refine blk_alloc ?_ _)); exact BK215.out) hb); have n2_ := Aside0.mk (blk_below (g := gb216) (o := .cells #[.int .u32 x0_1, .int .i64 (wrap64 (x216001_2 - 1))] 31 (0, 0)) (by (with_reducible repeat (first | refine blk_drewN ?_ _ | refine blk_drew ?_ | refine blk_alloc ?_ _)); refine blk_put (cs := #[.int .u32 x0_1, .int .i64 0]) ?_ 1 _ rfl; (with_reducible repeat (first | refine blk_drewN ?_ _ | refine blk_drew ?_ | refine blk_alloc ?_ _)); refine blk_put (cs := #[.int .u32 0, .int .i64 0]) ?_ 0 _ rfl; (with_reducible repeat (first | refine blk_drewN ?_ _ | refine blk_drew ?_ | refine blk_alloc ?_ _)); exact BK216.out) hb); have n3_ := Aside0.mk (below_step (by repeat (first | (with_reducible first | exact HB.out | apply below_alloc | apply pw_below_drewN | apply below_drew1 | refine below_set ?_ GE215.out | refine below_set ?_ GE216.out) | exact HB.out)) hb); clear HO_5; clear BK215; clear BK216; clear HB; have HO_5 := n0_; have BK215 := n1_; have BK216 := n2_; have HB := n3_; clear n0_ n1_ n2_ n3_; (try clear hb); (try clear hb2); (try clear hk); (try clear hi); have hcz24_0 : w23.cell? ⟨gb216, 0, none⟩ = some (.int .u32 x0_1) := (blk_cell BK216.out 0).trans rfl; have hcz24_1 : w23.cell? ⟨gb216, 1, none⟩ = some (.int .i64 (wrap64 (x216001_2 - 1))) := (blk_cell BK216.out 1).trans rfl; have hfz24_0 := blk_frozen BK216.out 0; have hfz24_1 := blk_frozen BK216.out 1) | (go_at_call 46; (with_reducible refine (addr_last.calls x0_1 (wrap64 (x216001_2 - 1)) t218 _ A10.out).mono ?_); rintro e w25 ⟨rfl, hb⟩; have n0_ := Aside0.mk (Kd.R_below (by (with_reducible repeat (first | apply Kd.R_alloc | apply Kd.R_drewN | apply Kd.R_drew)); exact HO_5.out) hb); have n1_ := Aside0.mk (blk_below (g := gb215) (o := .cells #[.int .u32 x216000_2, .int .i64 x216001_2] 31 (0, 0)) (by (with_reducible repeat (first | refine blk_drewN ?_ _ | refine blk_drew ?_ | refine blk_alloc ?_ _)); exact BK215.out) hb); have n2_ := Aside0.mk (blk_below (g := gb216) (o := .cells #[.int .u32 x0_1, .int .i64 (wrap64 (x216001_2 - 1))] 31 (0, 0)) (by (with_reducible repeat (first | refine blk_drewN ?_ _ | refine blk_drew ?_ | refine blk_alloc ?_ _)); exact BK216.out) hb); have n3_ := Aside0.mk (below_step (by repeat (first | (with_reducible first | exact HB.out | apply below_alloc | apply pw_below_drewN | apply below_drew1 | refine below_set ?_ GE215.out | refine below_set ?_ GE216.out) | exact HB.out)) hb); clear HO_5; clear BK215; clear BK216; clear HB; have HO_5 := n0_; have BK215 := n1_; have BK216 := n2_; have HB := n3_; clear n0_ n1_ n2_ n3_; (try clear hb); (try clear hb2); (try clear hk); (try clear hi); have hcz26_0 : w25.cell? ⟨gb216, 0, none⟩ = some (.int .u32 x0_1) := (blk_cell BK216.out 0).trans rfl; have hcz26_1 : w25.cell? ⟨gb216, 1, none⟩ = some (.int .i64 (wrap64 (x216001_2 - 1))) := (blk_cell BK216.out 1).trans rfl; have hfz26_0 := blk_frozen BK216.out 0; have hfz26_1 := blk_frozen BK216.out 1; have hcz27_0 : w25.cell? ⟨gb215, 0, none⟩ = some (.int .u32 x216000_2) := (blk_cell BK215.out 0).trans rfl; have hcz27_1 : w25.cell? ⟨gb215, 1, none⟩ = some (.int .i64 x216001_2) := (blk_cell BK215.out 1).trans rfl; have hfz27_0 := blk_frozen BK215.out 0; have hfz27_1 := blk_frozen BK215.out 1))
                    go_roundg k2
                    case measure => have := HK1.out; have := HK2.out; omega
                    case rel => exact ⟨(x0_1), (wrap64 (x216001_2 - 1)), H', ⟨by have := HK1.out; have := HK2.out; omega⟩, ⟨by (with_reducible repeat (first | apply Kd.R_alloc | apply Kd.R_drewN | apply Kd.R_drew)); exact Kd.R_mono (Kd.R_far (p := ⟨gb215, 1, none⟩) (Kd.R_far (p := ⟨gb215, 0, none⟩) (Kd.R_mono HO_5.out (fun k_ hk => (⟨hk, hk.1⟩ : _ ∧ k_ ≠ gb215))) (fun _ hk => hk.2) (.int .u32 x0_1)) (fun _ hk => hk.2) (.int .i64 (wrap64 (x216001_2 - 1)))) (fun _ hk => hk.1.1)⟩, ⟨by (with_reducible repeat (first | refine blk_drewN ?_ _ | refine blk_drew ?_ | refine blk_alloc ?_ _)); refine blk_put (cs := #[.int .u32 x0_1, .int .i64 x216001_2]) ?_ 1 _ rfl; (with_reducible repeat (first | refine blk_drewN ?_ _ | refine blk_drew ?_ | refine blk_alloc ?_ _)); refine blk_put (cs := #[.int .u32 x216000_2, .int .i64 x216001_2]) ?_ 0 _ rfl; (with_reducible repeat (first | refine blk_drewN ?_ _ | refine blk_drew ?_ | refine blk_alloc ?_ _)); exact BK215.out⟩, ⟨by repeat (first | (with_reducible first | exact HB.out | apply below_alloc | apply pw_below_drewN | apply below_drew1 | refine below_set ?_ GE215.out | refine below_set ?_ GE216.out) | exact HB.out)⟩⟩
                · replace c9 := Bool.eq_false_iff.mpr c9
                  subst c9
                  have H1 : (addr_Cover.j2 k2 a1 x5_1 x216000_2 x216001_2) = some r := by rw [if_neg (show ¬ (false = true) by decide)] at H; exact H
                  clear H
                  have H := H1
                  clear H1
                  have H' := Aside0.mk H
                  clear H
                  have hcz28_0 : wr.cell? ⟨gb215, 0, none⟩ = some (.int .u32 x216000_2) := (blk_cell BK215.out 0).trans rfl
                  have hcz28_1 : wr.cell? ⟨gb215, 1, none⟩ = some (.int .i64 x216001_2) := (blk_cell BK215.out 1).trans rfl
                  have hfz28_0 := blk_frozen BK215.out 0
                  have hfz28_1 := blk_frozen BK215.out 1
                  go_wp2_with (first | ((with_reducible refine gate_dst (N := 7) rfl ?_); refine box_event ?hg (N := 7) ?hd (cs := #[.int .u32 0, .int .i64 0]) (t := 31) ?hr ?_; (case hd => rfl); (case hg => rfl); (case hr => first | (go_simp; done) | (go_simp; rfl)); intro gb216 hg w29 hbox hb; have n0_ := Aside0.mk (Kd.R_below (Kd.R_elderB (by (with_reducible repeat (first | apply Kd.R_alloc | apply Kd.R_drewN | apply Kd.R_drew)); exact HO_5.out) gb216 (Nat.le_of_eq hg.symm)) hb); have n1_ := Aside0.mk (blk_below (g := gb215) (o := .cells #[.int .u32 x216000_2, .int .i64 x216001_2] 31 (0, 0)) (by (with_reducible repeat (first | refine blk_drewN ?_ _ | refine blk_drew ?_ | refine blk_alloc ?_ _)); exact BK215.out) hb); have n2_ := Aside0.mk (below_step (by repeat (first | (with_reducible first | exact HB.out | apply below_alloc | apply pw_below_drewN | apply below_drew1 | refine below_set ?_ GE215.out) | exact HB.out)) hb); have n3_ := Aside0.mk (hbox); have n4_ := Aside0.mk ((by rw [hg]; exact (below_size (by repeat (first | (with_reducible first | exact HB.out | apply below_alloc | apply pw_below_drewN | apply below_drew1 | refine below_set ?_ GE215.out) | exact HB.out))) : w.heap.size ≤ gb216)); have n5_ := Aside0.mk ((by rw [hg]; exact (below_size (by repeat (first | (with_reducible first | exact HB.out | apply below_alloc | apply pw_below_drewN | apply below_drew1 | refine below_set ?_ GE215.out) | exact HB.out))) : w.heap.size ≤ gb216)); have n6_ := Aside0.mk ((by rw [hg]; exact Nat.ne_of_lt (blk_lt (g := gb215) (o := .cells #[.int .u32 x216000_2, .int .i64 x216001_2] 31 (0, 0)) (by (with_reducible repeat (first | refine blk_drewN ?_ _ | refine blk_drew ?_ | refine blk_alloc ?_ _)); exact BK215.out)) : gb215 ≠ gb216)); have n7_ := Aside0.mk ((by rw [hg]; exact Nat.ne_of_gt (blk_lt (g := gb215) (o := .cells #[.int .u32 x216000_2, .int .i64 x216001_2] 31 (0, 0)) (by (with_reducible repeat (first | refine blk_drewN ?_ _ | refine blk_drew ?_ | refine blk_alloc ?_ _)); exact BK215.out)) : gb216 ≠ gb215)); clear HO_5; clear BK215; clear HB; have HO_5 := n0_; have BK215 := n1_; have HB := n2_; have BK216 := n3_; have GW216 := n4_; have GE216 := n5_; have NB215_216 := n6_; have NB216_215 := n7_; clear n0_ n1_ n2_ n3_ n4_ n5_ n6_ n7_; clear hb hbox hg; have hnb30 := NB216_215.out; have hnc30 := NB215_216.out; have hcz31_0 : w29.cell? ⟨gb216, 0, none⟩ = some (.int .u32 0) := (blk_cell BK216.out 0).trans rfl; have hcz31_1 : w29.cell? ⟨gb216, 1, none⟩ = some (.int .i64 0) := (blk_cell BK216.out 1).trans rfl; have hfz31_0 := blk_frozen BK216.out 0; have hfz31_1 := blk_frozen BK216.out 1) | ((with_reducible refine gate_callee (f := 24) rfl ?_); refine goesL_ (some 22) rfl rfl Tryd.func24 (by kernel_rfl) rfl #[.agg #[.int .u32 x0_1, .int .i64 (wrap64 (x216001_2 - 1))]] rfl (by (try simp only [List.map_toArray, List.map_cons, List.map_nil]); first | done | rfl | (simp only [List.length_drop, List.length_take]; rfl)) ?_; (with_reducible refine (addr_Valid.calls k2 x0_1 (wrap64 (x216001_2 - 1)) false _ A8.out).mono ?_); rintro e w32 ⟨rfl, hb⟩; refine ⟨_, rfl, ?_⟩; have n0_ := Aside0.mk (Kd.R_below (by (with_reducible repeat (first | apply Kd.R_alloc | apply Kd.R_drewN | apply Kd.R_drew)); exact (Kd.R_mono (Kd.R_far (p := ⟨gb216, 1, none⟩) (Kd.R_far (p := ⟨gb216, 0, none⟩) (Kd.R_mono HO_5.out (fun k_ hk => (⟨hk, hk.2⟩ : _ ∧ k_ ≠ gb216))) (fun _ hk => hk.2) (.int .u32 x0_1)) (fun _ hk => hk.2) (.int .i64 (wrap64 (x216001_2 - 1)))) (fun _ h_ => h_.1))) hb); have n1_ := Aside0.mk (blk_below (g := gb215) (o := .cells #[.int .u32 x216000_2, .int .i64 x216001_2] 31 (0, 0)) (by (with_reducible repeat (first | refine blk_drewN ?_ _ | refine blk_drew ?_ | refine blk_alloc ?_ _)); refine blk_far ?_ NB215_216.out _; (with_reducible repeat (first | refine blk_drewN ?_ _ | refine blk_drew ?_ | refine blk_alloc ?_ _)); refine blk_far ?_ NB215_216.out _; (with_reducible repeat (first | refine blk_drewN ?_ _ | refine blk_drew ?_ | refine blk_alloc ?_ _)); exact BK215.out) hb); have n2_ := Aside0.mk (blk_below (g := gb216) (o := .cells #[.int .u32 x0_1, .int .i64 (wrap64 (x216001_2 - 1))] 31 (0, 0)) (by (with_reducible repeat (first | refine blk_drewN ?_ _ | refine blk_drew ?_ | refine blk_alloc ?_ _)); refine blk_put (cs := #[.int .u32 x0_1, .int .i64 0]) ?_ 1 _ rfl; (with_reducible repeat (first | refine blk_drewN ?_ _ | refine blk_drew ?_ | refine blk_alloc ?_ _)); refine blk_put (cs := #[.int .u32 0, .int .i64 0]) ?_ 0 _ rfl; (with_reducible repeat (first | refine blk_drewN ?_ _ | refine blk_drew ?_ | refine blk_alloc ?_ _)); exact BK216.out) hb); have n3_ := Aside0.mk (below_step (by repeat (first | (with_reducible first | exact HB.out | apply below_alloc | apply pw_below_drewN | apply below_drew1 | refine below_set ?_ GE215.out | refine below_set ?_ GE216.out) | exact HB.out)) hb); clear HO_5; clear BK215; clear BK216; clear HB; have HO_5 := n0_; have BK215 := n1_; have BK216 := n2_; have HB := n3_; clear n0_ n1_ n2_ n3_; (try clear hb); (try clear hb2); (try clear hk); (try clear hi)))
                  go_meet
                  case rel => exact ⟨_, (x216000_2), (x216001_2), H', ⟨by have := HK1.out; have := HK2.out; first | omega | exact Nat.le_refl _⟩, ⟨by (with_reducible repeat (first | apply Kd.R_alloc | apply Kd.R_drewN | apply Kd.R_drew)); exact Kd.R_mono HO_5.out (fun _ hk => hk.1)⟩, ⟨by (with_reducible repeat (first | refine blk_drewN ?_ _ | refine blk_drew ?_ | refine blk_alloc ?_ _)); exact BK215.out⟩, ⟨by repeat (first | (with_reducible first | exact HB.out | apply below_alloc | apply pw_below_drewN | apply below_drew1 | refine below_set ?_ GE215.out | refine below_set ?_ GE216.out) | exact HB.out)⟩⟩
              · rw [if_neg c7] at H
                have c7b0 : decide (0 < x216001_2) = false := decide_eq_false c7
                clear c7
                (first | rw [c7b0] | (simp only [i64_w, i32_w]; rw [c7b0]) | skip)
                have H' := Aside0.mk H
                clear H
                have hcz33_0 : wr.cell? ⟨gb215, 0, none⟩ = some (.int .u32 x216000_2) := (blk_cell BK215.out 0).trans rfl
                have hcz33_1 : wr.cell? ⟨gb215, 1, none⟩ = some (.int .i64 x216001_2) := (blk_cell BK215.out 1).trans rfl
                have hfz33_0 := blk_frozen BK215.out 0
                have hfz33_1 := blk_frozen BK215.out 1
                go_wp2
                go_meet
                case rel => exact ⟨_, (x216000_2), (x216001_2), H', ⟨by have := HK1.out; have := HK2.out; first | omega | exact Nat.le_refl _⟩, ⟨by (with_reducible repeat (first | apply Kd.R_alloc | apply Kd.R_drewN | apply Kd.R_drew)); exact HO_5.out⟩, ⟨by (with_reducible repeat (first | refine blk_drewN ?_ _ | refine blk_drew ?_ | refine blk_alloc ?_ _)); exact BK215.out⟩, ⟨by repeat (first | (with_reducible first | exact HB.out | apply below_alloc | apply pw_below_drewN | apply below_drew1 | refine below_set ?_ GE215.out) | exact HB.out)⟩⟩
        case rest =>
          clear HC4
          try clear c1
          try clear c2
          try clear p2
          try clear c3
          try clear c3b0
          try clear p6
          try clear c7
          try clear c7b0
          try clear c9
          try clear c11
          try clear c11b0
          try clear c14
          try clear c21
          try clear c24
          try clear c30
          try clear c32
          try clear hcz12_0
          try clear hcz12_1
          try clear hcz15_0
          try clear hcz15_1
          try clear hcz17_0
          try clear hcz17_1
          try clear hcz19_0
          try clear hcz19_1
          try clear hcz22_0
          try clear hcz22_1
          try clear hcz24_0
          try clear hcz24_1
          try clear hcz26_0
          try clear hcz26_1
          try clear hcz27_0
          try clear hcz27_1
          try clear hcz28_0
          try clear hcz28_1
          try clear hcz31_0
          try clear hcz31_1
          try clear hcz33_0
          try clear hcz33_1
          try clear hcz6_0
          try clear hcz6_1
          try clear hfz12_0
          try clear hfz12_1
          try clear hfz15_0
          try clear hfz15_1
          try clear hfz17_0
          try clear hfz17_1
          try clear hfz19_0
          try clear hfz19_1
          try clear hfz22_0
          try clear hfz22_1
          try clear hfz24_0
          try clear hfz24_1
          try clear hfz26_0
          try clear hfz26_1
          try clear hfz27_0
          try clear hfz27_1
          try clear hfz28_0
          try clear hfz28_1
          try clear hfz31_0
          try clear hfz31_1
          try clear hfz33_0
          try clear hfz33_1
          try clear hfz6_0
          try clear hfz6_1
          try clear p2
          obtain ⟨kq, x216000_3, x216001_3, HA, HJ3, HO_5, BK215, HB⟩ := hcut
          cases kq with
          | zero => exact absurd HA.out (by simp [addr_Cover.j2])
          | succ kj3 =>
            have H := HA.out
            clear HA
            simp only [addr_Cover.j2] at H
            by_cases c34 : x5_1.length < 8796093022208
            · rw [if_pos c34] at H
              have LMc34 := Aside0.mk c34
              clear c34
              obtain ⟨y219, hy219⟩ : ∃ y_ : List (S31), y_ = (x5_1 ++ [(⟨x216000_3, x216001_3⟩ : S31)]) := ⟨_, rfl⟩
              replace H : ((addr_last.f x216000_3 x216001_3).bind fun t222 => (if t222 = 4294967295 then (some y219) else ((addr_last.f x216000_3 x216001_3).bind fun t223 => (addr_Cover.l0 kj3 ((t223 + 1) % 4294967296) a1 y219)))) = some r := by first | (rw [hy219]; with_reducible exact H) | (have H2_ := (Option.bind_some _ _).symm.trans H; rw [hy219]; with_reducible exact H2_) | (have H2_ := (Option.bind_some _ _).symm.trans H; with_reducible exact H2_) | with_reducible exact H | (rw [hy219]; exact H) | exact H
              have Ny219 := Aside0.mk hy219
              clear hy219
              replace H := Option.bind_eq_some_iff.mp H
              obtain ⟨t222, A350, H⟩ := H
              replace H : (if t222 = 4294967295 then (some y219) else ((addr_last.f x216000_3 x216001_3).bind fun t223 => (addr_Cover.l0 kj3 ((t223 + 1) % 4294967296) a1 y219))) = some r := H
              have A35 := Aside0.mk A350
              clear A350
              by_cases c36 : t222 = 4294967295
              · rw [if_pos c36] at H
                have c36b0 : (t222 == 4294967295) = true := beq_iff_eq.mpr c36
                have c36b1 : (t222 != 4294967295) = false := bne_eq_false_iff_eq.mpr c36
                clear c36
                obtain rfl := Option.some.inj H
                have hcz37_0 : wc.cell? ⟨gb215, 0, none⟩ = some (.int .u32 x216000_3) := (blk_cell BK215.out 0).trans rfl
                have hcz37_1 : wc.cell? ⟨gb215, 1, none⟩ = some (.int .i64 x216001_3) := (blk_cell BK215.out 1).trans rfl
                have hfz37_0 := blk_frozen BK215.out 0
                have hfz37_1 := blk_frozen BK215.out 1
                go_wp2_with (first | ((with_reducible refine gate_builtin (b := .append) (xs := #[.tmp 31, .tmp 33]) rfl ?_); at_builtin; refine Kd.R_append k31 (w0 := w) w.heap.size rfl (.tmp 31) (.tmp 33) 39 31 (.agg #[(.int .u32 0), (.int .i64 0)]) 16 rfl Tryd.underlying39 info31 rfl (by decide) (by omega) u5 x5_1 (⟨x216000_3, x216001_3⟩ : S31) [.int .u32 x216000_3, .int .i64 x216001_3] (fun k_ => k_ ≠ gb215) (fun _ => False) rfl rfl ?aP (fun _ hk => hk.elim) ?aF ?aO ?aB ?aS ?aL ?_; (case aP => exact k31_mkM _ _ _ (⟨x216000_3, x216001_3⟩ : S31)); (case aB => exact (by repeat (first | (with_reducible first | exact HB.out | apply below_alloc | apply pw_below_drewN | apply below_drew1 | refine below_set ?_ GE215.out) | exact HB.out))); (case aF => exact (fun k_ hk => Kd.freshB (g := gb215) (o := .cells #[.int .u32 x216000_3, .int .i64 x216001_3] 31 (0, 0)) (by (with_reducible repeat (first | refine blk_drewN ?_ _ | refine blk_drew ?_ | refine blk_alloc ?_ _)); exact BK215.out) k_ hk)); (case aO => exact (by (with_reducible repeat (first | apply Kd.R_alloc | apply Kd.R_drewN | apply Kd.R_drew)); exact HO_5.out)); (case aS => exact (below_size (by repeat (first | (with_reducible first | exact HB.out | apply below_alloc | apply pw_below_drewN | apply below_drew1 | refine below_set ?_ GE215.out) | exact HB.out)))); (case aL => have := LMc34.out; omega); intro v220 w38 ho hb hg hat; rw [← Ny219.out] at ho; have n0_ := Aside0.mk (blk_grown (g := gb215) (o := .cells #[.int .u32 x216000_3, .int .i64 x216001_3] 31 (0, 0)) (by (with_reducible repeat (first | refine blk_drewN ?_ _ | refine blk_drew ?_ | refine blk_alloc ?_ _)); exact BK215.out) hg (Kd.R_away HO_5.out (fun _ hk => hk))); have n1_ := Aside0.mk (hb); have n2_ := Aside0.mk (ho); clear BK215; clear HB; clear HO_5; have BK215 := n0_; have HB := n1_; have HO221 := n2_; clear n0_ n1_ n2_; clear ho hb hg hat; have hcz39_0 : w38.cell? ⟨gb215, 0, none⟩ = some (.int .u32 x216000_3) := (blk_cell BK215.out 0).trans rfl; have hcz39_1 : w38.cell? ⟨gb215, 1, none⟩ = some (.int .i64 x216001_3) := (blk_cell BK215.out 1).trans rfl; have hfz39_0 := blk_frozen BK215.out 0; have hfz39_1 := blk_frozen BK215.out 1) | ((with_reducible refine gate_callee (f := 46) rfl ?_); refine goesL_ (some 36) rfl rfl Tryd.func46 (by kernel_rfl) rfl #[.agg #[.int .u32 x216000_3, .int .i64 x216001_3]] rfl (by (try simp only [List.map_toArray, List.map_cons, List.map_nil]); first | done | rfl | (simp only [List.length_drop, List.length_take]; rfl)) ?_; (with_reducible refine (addr_last.calls x216000_3 x216001_3 t222 _ A35.out).mono ?_); rintro e w40 ⟨rfl, hb⟩; refine ⟨_, rfl, ?_⟩; have n0_ := Aside0.mk (Kd.R_below (by (with_reducible repeat (first | apply Kd.R_alloc | apply Kd.R_drewN | apply Kd.R_drew)); exact HO221.out) hb); have n1_ := Aside0.mk (blk_below (g := gb215) (o := .cells #[.int .u32 x216000_3, .int .i64 x216001_3] 31 (0, 0)) (by (with_reducible repeat (first | refine blk_drewN ?_ _ | refine blk_drew ?_ | refine blk_alloc ?_ _)); exact BK215.out) hb); have n2_ := Aside0.mk (below_step (by repeat (first | (with_reducible first | exact HB.out | apply below_alloc | apply pw_below_drewN | apply below_drew1 | refine below_set ?_ GE215.out) | exact HB.out)) hb); clear HO221; clear BK215; clear HB; have HO221 := n0_; have BK215 := n1_; have HB := n2_; clear n0_ n1_ n2_; (try clear hb); (try clear hb2); (try clear hk); (try clear hi)))
                go_ret
                exact ⟨_, by first | rfl | (simp [errW_none, errW_some] <;> rfl) | (simp [*, errW_none, errW_some] <;> rfl), by (with_reducible repeat (first | apply Kd.R_alloc | apply Kd.R_drewN | apply Kd.R_drew)); exact Kd.R_mono HO221.out (fun _ hk => trivial), by repeat (first | (with_reducible first | exact HB.out | apply below_alloc | apply pw_below_drewN | apply below_drew1 | refine below_set ?_ GE215.out) | exact HB.out)⟩
              · rw [if_neg c36] at H
                have c36b0 : (t222 == 4294967295) = false := beq_eq_false_iff_ne.mpr c36
                have c36b1 : (t222 != 4294967295) = true := bne_iff_ne.mpr c36
                replace H := Option.bind_eq_some_iff.mp H
                obtain ⟨t223, A410, H⟩ := H
                replace H : (addr_Cover.l0 kj3 ((t223 + 1) % 4294967296) a1 y219) = some r := H
                have A41 := Aside0.mk A410
                clear A410
                have H' := Aside0.mk H
                clear H
                have hcz42_0 : wc.cell? ⟨gb215, 0, none⟩ = some (.int .u32 x216000_3) := (blk_cell BK215.out 0).trans rfl
                have hcz42_1 : wc.cell? ⟨gb215, 1, none⟩ = some (.int .i64 x216001_3) := (blk_cell BK215.out 1).trans rfl
                have hfz42_0 := blk_frozen BK215.out 0
                have hfz42_1 := blk_frozen BK215.out 1
                go_wp2_with (first | ((with_reducible refine gate_builtin (b := .append) (xs := #[.tmp 31, .tmp 33]) rfl ?_); at_builtin; refine Kd.R_append k31 (w0 := w) w.heap.size rfl (.tmp 31) (.tmp 33) 39 31 (.agg #[(.int .u32 0), (.int .i64 0)]) 16 rfl Tryd.underlying39 info31 rfl (by decide) (by omega) u5 x5_1 (⟨x216000_3, x216001_3⟩ : S31) [.int .u32 x216000_3, .int .i64 x216001_3] (fun k_ => k_ ≠ gb215) (fun _ => False) rfl rfl ?aP (fun _ hk => hk.elim) ?aF ?aO ?aB ?aS ?aL ?_; (case aP => exact k31_mkM _ _ _ (⟨x216000_3, x216001_3⟩ : S31)); (case aB => exact (by repeat (first | (with_reducible first | exact HB.out | apply below_alloc | apply pw_below_drewN | apply below_drew1 | refine below_set ?_ GE215.out) | exact HB.out))); (case aF => exact (fun k_ hk => Kd.freshB (g := gb215) (o := .cells #[.int .u32 x216000_3, .int .i64 x216001_3] 31 (0, 0)) (by (with_reducible repeat (first | refine blk_drewN ?_ _ | refine blk_drew ?_ | refine blk_alloc ?_ _)); exact BK215.out) k_ hk)); (case aO => exact (by (with_reducible repeat (first | apply Kd.R_alloc | apply Kd.R_drewN | apply Kd.R_drew)); exact HO_5.out)); (case aS => exact (below_size (by repeat (first | (with_reducible first | exact HB.out | apply below_alloc | apply pw_below_drewN | apply below_drew1 | refine below_set ?_ GE215.out) | exact HB.out)))); (case aL => have := LMc34.out; omega); intro v220 w43 ho hb hg hat; rw [← Ny219.out] at ho; have n0_ := Aside0.mk (blk_grown (g := gb215) (o := .cells #[.int .u32 x216000_3, .int .i64 x216001_3] 31 (0, 0)) (by (with_reducible repeat (first | refine blk_drewN ?_ _ | refine blk_drew ?_ | refine blk_alloc ?_ _)); exact BK215.out) hg (Kd.R_away HO_5.out (fun _ hk => hk))); have n1_ := Aside0.mk (hb); have n2_ := Aside0.mk (ho); clear BK215; clear HB; clear HO_5; have BK215 := n0_; have HB := n1_; have HO221 := n2_; clear n0_ n1_ n2_; clear ho hb hg hat; have hcz44_0 : w43.cell? ⟨gb215, 0, none⟩ = some (.int .u32 x216000_3) := (blk_cell BK215.out 0).trans rfl; have hcz44_1 : w43.cell? ⟨gb215, 1, none⟩ = some (.int .i64 x216001_3) := (blk_cell BK215.out 1).trans rfl; have hfz44_0 := blk_frozen BK215.out 0; have hfz44_1 := blk_frozen BK215.out 1) | ((with_reducible refine gate_callee (f := 46) rfl ?_); refine goesL_ (some 36) rfl rfl Tryd.func46 (by kernel_rfl) rfl #[.agg #[.int .u32 x216000_3, .int .i64 x216001_3]] rfl (by (try simp only [List.map_toArray, List.map_cons, List.map_nil]); first | done | rfl | (simp only [List.length_drop, List.length_take]; rfl)) ?_; (with_reducible refine (addr_last.calls x216000_3 x216001_3 t222 _ A35.out).mono ?_); rintro e w45 ⟨rfl, hb⟩; refine ⟨_, rfl, ?_⟩; have n0_ := Aside0.mk (Kd.R_below (by (with_reducible repeat (first | apply Kd.R_alloc | apply Kd.R_drewN | apply Kd.R_drew)); exact HO221.out) hb); have n1_ := Aside0.mk (blk_below (g := gb215) (o := .cells #[.int .u32 x216000_3, .int .i64 x216001_3] 31 (0, 0)) (by (with_reducible repeat (first | refine blk_drewN ?_ _ | refine blk_drew ?_ | refine blk_alloc ?_ _)); exact BK215.out) hb); have n2_ := Aside0.mk (below_step (by repeat (first | (with_reducible first | exact HB.out | apply below_alloc | apply pw_below_drewN | apply below_drew1 | refine below_set ?_ GE215.out) | exact HB.out)) hb); clear HO221; clear BK215; clear HB; have HO221 := n0_; have BK215 := n1_; have HB := n2_; clear n0_ n1_ n2_; (try clear hb); (try clear hb2); (try clear hk); (try clear hi); have hcz46_0 : w45.cell? ⟨gb215, 0, none⟩ = some (.int .u32 x216000_3) := (blk_cell BK215.out 0).trans rfl; have hcz46_1 : w45.cell? ⟨gb215, 1, none⟩ = some (.int .i64 x216001_3) := (blk_cell BK215.out 1).trans rfl; have hfz46_0 := blk_frozen BK215.out 0; have hfz46_1 := blk_frozen BK215.out 1) | ((with_reducible refine gate_callee (f := 46) rfl ?_); refine goesL_ (some 39) rfl rfl Tryd.func46 (by kernel_rfl) rfl #[.agg #[.int .u32 x216000_3, .int .i64 x216001_3]] rfl (by (try simp only [List.map_toArray, List.map_cons, List.map_nil]); first | done | rfl | (simp only [List.length_drop, List.length_take]; rfl)) ?_; (with_reducible refine (addr_last.calls x216000_3 x216001_3 t223 _ A41.out).mono ?_); rintro e w47 ⟨rfl, hb⟩; refine ⟨_, rfl, ?_⟩; have n0_ := Aside0.mk (Kd.R_below (by (with_reducible repeat (first | apply Kd.R_alloc | apply Kd.R_drewN | apply Kd.R_drew)); exact HO221.out) hb); have n1_ := Aside0.mk (blk_below (g := gb215) (o := .cells #[.int .u32 x216000_3, .int .i64 x216001_3] 31 (0, 0)) (by (with_reducible repeat (first | refine blk_drewN ?_ _ | refine blk_drew ?_ | refine blk_alloc ?_ _)); exact BK215.out) hb); have n2_ := Aside0.mk (below_step (by repeat (first | (with_reducible first | exact HB.out | apply below_alloc | apply pw_below_drewN | apply below_drew1 | refine below_set ?_ GE215.out) | exact HB.out)) hb); clear HO221; clear BK215; clear HB; have HO221 := n0_; have BK215 := n1_; have HB := n2_; clear n0_ n1_ n2_; (try clear hb); (try clear hb2); (try clear hk); (try clear hi)))
                go_roundg kj3
                case measure => have := HK1.out; have := HJ3.out; omega
                case rel => exact ⟨((t223 + 1) % 4294967296), (y219), (by first | rfl | (simp; done) | (simp [*]; done)), H', ⟨by have := HK1.out; have := HJ3.out; omega⟩, ⟨by (with_reducible repeat (first | apply Kd.R_alloc | apply Kd.R_drewN | apply Kd.R_drew)); exact Kd.R_mono HO221.out (fun _ hk => trivial)⟩, ⟨by repeat (first | (with_reducible first | exact HB.out | apply below_alloc | apply pw_below_drewN | apply below_drew1 | refine below_set ?_ GE215.out) | exact HB.out)⟩⟩
            · rw [if_neg c34] at H
              exact absurd H (by simp)
      · rw [if_neg c3] at H
        have c3b0 : decide (x0_1 ≤ a1) = false := decide_eq_false c3
        clear c3
        obtain rfl := Option.some.inj H
        go_wp2
        go_ret
        exact ⟨_, by first | rfl | (simp [errW_none, errW_some] <;> rfl) | (simp [*, errW_none, errW_some] <;> rfl), by (with_reducible repeat (first | apply Kd.R_alloc | apply Kd.R_drewN | apply Kd.R_drew)); exact HO_5.out, by repeat (first | (with_reducible first | exact HB.out | apply below_alloc | apply pw_below_drewN | apply below_drew1) | exact HB.out)⟩

end Go.Proofs.YtncpcjphljfcpaaDoor.PScr
