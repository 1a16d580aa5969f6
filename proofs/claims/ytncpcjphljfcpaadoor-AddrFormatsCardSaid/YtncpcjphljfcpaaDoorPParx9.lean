-- written by xp.sh, a program of this seat's session
import Derived.Test.YtncpcjphljfcpaaDoorPParx0
import Derived.Test.YtncpcjphljfcpaaDoorPParx3
import Derived.Test.YtncpcjphljfcpaaDoorPParx4
import Derived.Test.YtncpcjphljfcpaaDoorPParx8
namespace Go.Proofs.YtncpcjphljfcpaaDoor.PPar
open Go.RowKit Go.Proofs.YtncpcjphljfcpaaDoorW.PrintWords Go.Proofs.YtncpcjphljfcpaaDoorW.PrintLast Go.Proofs.YtncpcjphljfcpaaDoorW.PrintMore
attribute [local go_sem] max2_int min2_int max_two min_two max_three min_three max_four min_four   -- for this text's walks alone
set_option linter.unusedVariables false
set_option linter.unusedSimpArgs false

/-! ### addr_Class: function 30 -/
-- calls=weft/addr.Contains
def cls_ct (a p m : Int) : Bool := Go.bits .and .u32 a m == p
def addr_Class.f (a0 : Int) : Option Int := some (if cls_ct a0 0 4278190080 = true then 1 else if cls_ct a0 2130706432 4278190080 = true then 2 else if cls_ct a0 3758096384 4026531840 = true then 3 else if cls_ct a0 4026531840 4026531840 = true then 4 else 0)
theorem cont_f (p l m a : Int) (hv : addr_Valid.f 2 p l = some true) (hm : addr_mask.f l = some m) : addr_Contains.f 2 p l a = some (cls_ct a p m) := by
  unfold addr_Contains.f
  rw [hv, Option.bind_some, if_pos rfl, hm, Option.bind_some]
  rfl
theorem cont_calls (p l m a : Int) (w : World) (hv : addr_Valid.f 2 p l = some true) (hm : addr_mask.f l = some m) :
    Calls Tryd.prog 28 #[.agg #[.int .u32 p, .int .i64 l], .int .u32 a] w fun e w' => e = .returned (.bool (cls_ct a p m)) ∧ Below w.heap.size w w' := addr_Contains.calls 2 p l a _ w (cont_f p l m a hv hm)
theorem cls_v0 : addr_Valid.f 2 0 8 = some true := by decide +kernel
theorem cls_v1 : addr_Valid.f 2 2130706432 8 = some true := by decide +kernel
theorem cls_v2 : addr_Valid.f 2 3758096384 4 = some true := by decide +kernel
theorem cls_v3 : addr_Valid.f 2 4026531840 4 = some true := by decide +kernel
theorem cls_m8 : addr_mask.f 8 = some 4278190080 := by decide +kernel
theorem cls_m4 : addr_mask.f 4 = some 4026531840 := by decide +kernel
set_option maxHeartbeats 4000000 in
set_option maxRecDepth 100000 in
theorem addr_Class.calls (a0 : Int) (r : Int) (w : World) (hT : Cls w) (h : addr_Class.f a0 = some r) : Calls Tryd.prog 30 #[.int .u32 a0] w fun e w' => e = .returned (.int .i64 r) ∧ Below w.heap.size w w' := by
  have HRR := Aside0.mk h
  clear h
  obtain ⟨A, c, hg, hc⟩ := hT
  have HC := Aside0.mk hc
  clear hc
  go_enter Tryd.func30, Tryd.ntmps30
  go_wp2
  go_loopw [7] (fun v7 wr => ∃ (i : Nat), v7 = .int .i64 i ∧ i ≤ 4 ∧ Aside0 (Below w.heap.size w wr) ∧ Aside0 (0 < i → cls_ct a0 0 4278190080 = false) ∧ Aside0 (1 < i → cls_ct a0 2130706432 4278190080 = false) ∧ Aside0 (2 < i → cls_ct a0 3758096384 4026531840 = false) ∧ Aside0 (3 < i → cls_ct a0 4026531840 4026531840 = false)) (fun v7 _ => 4 - (intOf v7).toNat)
  case atStart => exact ⟨0, rfl, by omega, ⟨Below.refl _ _⟩, ⟨by omega⟩, ⟨by omega⟩, ⟨by omega⟩, ⟨by omega⟩⟩
  case round =>
    obtain ⟨i, rfl, hi, HB, H0, H1, H2, H3⟩ := hrel
    have hcell : ∀ j v, clsCells[j]? = some v → wr.cell? (A.add j) = some v := by
      intro j v hj
      have := HC.out j v hj
      rw [HB.out.cell (cell_lt this)]; exact this
    by_cases hlt : i < 4
    · match i, hlt with
      | 0, _ =>
        have c0 : wr.cell? A = some (.int .u32 0) := hcell 0 _ rfl
        have c1 : wr.cell? { block := A.block, off := A.off + 1 } = some (.int .i64 8) := hcell 1 _ rfl
        have c2 : wr.cell? { block := A.block, off := A.off + 2 } = some (.int .i64 1) := hcell 2 _ rfl
        clear hcell
        go_wp2_with (go_at_call 28; refine (cont_calls _ _ _ _ _ cls_v0 cls_m8).mono ?_; rintro e w' ⟨rfl, hb'⟩; have k2 : w'.cell? { block := wr.heap.size, off := 2 } = some (.int .i64 1) := (hb'.cell (p := ⟨wr.heap.size, 2, none⟩) (by simp)).trans (cell_blk (j := 2) (blk_new wr _) (by decide)).1; have HB' := Aside0.mk hb'; clear hb')
        · rename_i ht
          go_ret
          refine ⟨?_, HB.out.trans (((Below.refl _ _).alloc (by have := HB.out.size; omega) _).trans (HB'.out.mono (by have := HB.out.size; simp; omega)))⟩
          have h := HRR.out
          unfold addr_Class.f at h
          rw [if_pos ht] at h
          rw [← Option.some.inj h]
          rfl
        · rename_i hf
          go_roundw
          case rel => exact ⟨1, rfl, by omega, ⟨HB.out.trans (((Below.refl _ _).alloc (by have := HB.out.size; omega) _).trans (HB'.out.mono (by have := HB.out.size; simp; omega)))⟩, ⟨fun _ => by first | exact H0.out (by omega) | simpa using hf⟩, ⟨by omega⟩, ⟨by omega⟩, ⟨by omega⟩⟩
          case measure => simp [intOf]
      | 1, _ =>
        have c0 : wr.cell? { block := A.block, off := A.off + 3 } = some (.int .u32 2130706432) := hcell 3 _ rfl
        have c1 : wr.cell? { block := A.block, off := A.off + 3 + 1 } = some (.int .i64 8) := hcell 4 _ rfl
        have c2 : wr.cell? { block := A.block, off := A.off + 3 + 2 } = some (.int .i64 2) := hcell 5 _ rfl
        clear hcell
        go_wp2_with (go_at_call 28; refine (cont_calls _ _ _ _ _ cls_v1 cls_m8).mono ?_; rintro e w' ⟨rfl, hb'⟩; have k2 : w'.cell? { block := wr.heap.size, off := 2 } = some (.int .i64 2) := (hb'.cell (p := ⟨wr.heap.size, 2, none⟩) (by simp)).trans (cell_blk (j := 2) (blk_new wr _) (by decide)).1; have HB' := Aside0.mk hb'; clear hb')
        · rename_i ht
          go_ret
          refine ⟨?_, HB.out.trans (((Below.refl _ _).alloc (by have := HB.out.size; omega) _).trans (HB'.out.mono (by have := HB.out.size; simp; omega)))⟩
          have h := HRR.out
          unfold addr_Class.f at h
          rw [if_neg (by rw [H0.out (by omega)]; decide), if_pos ht] at h
          rw [← Option.some.inj h]
          rfl
        · rename_i hf
          go_roundw
          case rel => exact ⟨2, rfl, by omega, ⟨HB.out.trans (((Below.refl _ _).alloc (by have := HB.out.size; omega) _).trans (HB'.out.mono (by have := HB.out.size; simp; omega)))⟩, ⟨fun _ => by first | exact H0.out (by omega) | simpa using hf⟩, ⟨fun _ => by first | exact H1.out (by omega) | simpa using hf⟩, ⟨by omega⟩, ⟨by omega⟩⟩
          case measure => simp [intOf]
      | 2, _ =>
        have c0 : wr.cell? { block := A.block, off := A.off + 6 } = some (.int .u32 3758096384) := hcell 6 _ rfl
        have c1 : wr.cell? { block := A.block, off := A.off + 6 + 1 } = some (.int .i64 4) := hcell 7 _ rfl
        have c2 : wr.cell? { block := A.block, off := A.off + 6 + 2 } = some (.int .i64 3) := hcell 8 _ rfl
        clear hcell
        go_wp2_with (go_at_call 28; refine (cont_calls _ _ _ _ _ cls_v2 cls_m4).mono ?_; rintro e w' ⟨rfl, hb'⟩; have k2 : w'.cell? { block := wr.heap.size, off := 2 } = some (.int .i64 3) := (hb'.cell (p := ⟨wr.heap.size, 2, none⟩) (by simp)).trans (cell_blk (j := 2) (blk_new wr _) (by decide)).1; have HB' := Aside0.mk hb'; clear hb')
        · rename_i ht
          go_ret
          refine ⟨?_, HB.out.trans (((Below.refl _ _).alloc (by have := HB.out.size; omega) _).trans (HB'.out.mono (by have := HB.out.size; simp; omega)))⟩
          have h := HRR.out
          unfold addr_Class.f at h
          rw [if_neg (by rw [H0.out (by omega)]; decide), if_neg (by rw [H1.out (by omega)]; decide), if_pos ht] at h
          rw [← Option.some.inj h]
          rfl
        · rename_i hf
          go_roundw
          case rel => exact ⟨3, rfl, by omega, ⟨HB.out.trans (((Below.refl _ _).alloc (by have := HB.out.size; omega) _).trans (HB'.out.mono (by have := HB.out.size; simp; omega)))⟩, ⟨fun _ => by first | exact H0.out (by omega) | simpa using hf⟩, ⟨fun _ => by first | exact H1.out (by omega) | simpa using hf⟩, ⟨fun _ => by first | exact H2.out (by omega) | simpa using hf⟩, ⟨by omega⟩⟩
          case measure => simp [intOf]
      | 3, _ =>
        have c0 : wr.cell? { block := A.block, off := A.off + 9 } = some (.int .u32 4026531840) := hcell 9 _ rfl
        have c1 : wr.cell? { block := A.block, off := A.off + 9 + 1 } = some (.int .i64 4) := hcell 10 _ rfl
        have c2 : wr.cell? { block := A.block, off := A.off + 9 + 2 } = some (.int .i64 4) := hcell 11 _ rfl
        clear hcell
        go_wp2_with (go_at_call 28; refine (cont_calls _ _ _ _ _ cls_v3 cls_m4).mono ?_; rintro e w' ⟨rfl, hb'⟩; have k2 : w'.cell? { block := wr.heap.size, off := 2 } = some (.int .i64 4) := (hb'.cell (p := ⟨wr.heap.size, 2, none⟩) (by simp)).trans (cell_blk (j := 2) (blk_new wr _) (by decide)).1; have HB' := Aside0.mk hb'; clear hb')
        · rename_i ht
          go_ret
          refine ⟨?_, HB.out.trans (((Below.refl _ _).alloc (by have := HB.out.size; omega) _).trans (HB'.out.mono (by have := HB.out.size; simp; omega)))⟩
          have h := HRR.out
          unfold addr_Class.f at h
          rw [if_neg (by rw [H0.out (by omega)]; decide), if_neg (by rw [H1.out (by omega)]; decide), if_neg (by rw [H2.out (by omega)]; decide), if_pos ht] at h
          rw [← Option.some.inj h]
          rfl
        · rename_i hf
          go_roundw
          case rel => exact ⟨4, rfl, by omega, ⟨HB.out.trans (((Below.refl _ _).alloc (by have := HB.out.size; omega) _).trans (HB'.out.mono (by have := HB.out.size; simp; omega)))⟩, ⟨fun _ => by first | exact H0.out (by omega) | simpa using hf⟩, ⟨fun _ => by first | exact H1.out (by omega) | simpa using hf⟩, ⟨fun _ => by first | exact H2.out (by omega) | simpa using hf⟩, ⟨fun _ => by first | exact H3.out (by omega) | simpa using hf⟩⟩
          case measure => simp [intOf]
    · obtain rfl : i = 4 := by omega
      clear hcell
      go_wp2
      go_ret
      refine ⟨?_, HB.out⟩
      have h := HRR.out
      unfold addr_Class.f at h
      rw [if_neg (by rw [H0.out (by omega)]; decide), if_neg (by rw [H1.out (by omega)]; decide), if_neg (by rw [H2.out (by omega)]; decide), if_neg (by rw [H3.out (by omega)]; decide)] at h
      rw [← Option.some.inj h]
      rfl

/-! ### weftref1_Class: function 31 -/
def weftref1_Class.f (a0 : Int) : Option (Int) := if (wrap64 (Int.tdiv (wrap64 (a0)) 16777216)) = 0 then (some 1) else (if (wrap64 (Int.tdiv (wrap64 (a0)) 16777216)) = 127 then (some 2) else (if (wrap64 (Int.tdiv (wrap64 (a0)) 16777216)) ≥ 240 then (some 4) else (if (wrap64 (Int.tdiv (wrap64 (a0)) 16777216)) ≥ 224 then (some 3) else (some 0))))
set_option maxHeartbeats 8000000 in
set_option maxRecDepth 100000 in
theorem weftref1_Class.calls (a0 : Int) (r : Int) (w : World) (h : weftref1_Class.f a0 = some r) :
    Calls Tryd.prog 31 #[.int .u32 a0] w fun e w' => e = .returned (.int .i64 r) ∧ Drawn0 w w' := by
  have H : (if (wrap64 (Int.tdiv (wrap64 (a0)) 16777216)) = 0 then (some 1) else (if (wrap64 (Int.tdiv (wrap64 (a0)) 16777216)) = 127 then (some 2) else (if (wrap64 (Int.tdiv (wrap64 (a0)) 16777216)) ≥ 240 then (some 4) else (if (wrap64 (Int.tdiv (wrap64 (a0)) 16777216)) ≥ 224 then (some 3) else (some 0))))) = some r := h
  clear h
  by_cases c2 : (wrap64 (Int.tdiv (wrap64 (a0)) 16777216)) = 0
  · rw [if_pos c2] at H
    have c2b0 : ((wrap64 (Int.tdiv (wrap64 (a0)) 16777216)) == 0) = true := beq_iff_eq.mpr c2
    have c2b1 : ((wrap64 (Int.tdiv (wrap64 (a0)) 16777216)) != 0) = false := bne_eq_false_iff_eq.mpr c2
    clear c2
    obtain rfl := Option.some.inj H
    go_enter Tryd.func31, Tryd.ntmps31
    go_wp2
    go_ret
    exact ⟨by first | rfl | (simp; done) | (simp [*]; done), by repeat (first | exact Drawn0.refl _ | apply Drawn0.step)⟩
  · rw [if_neg c2] at H
    have c2b0 : ((wrap64 (Int.tdiv (wrap64 (a0)) 16777216)) == 0) = false := beq_eq_false_iff_ne.mpr c2
    have c2b1 : ((wrap64 (Int.tdiv (wrap64 (a0)) 16777216)) != 0) = true := bne_iff_ne.mpr c2
    by_cases c3 : (wrap64 (Int.tdiv (wrap64 (a0)) 16777216)) = 127
    · rw [if_pos c3] at H
      have c3b0 : ((wrap64 (Int.tdiv (wrap64 (a0)) 16777216)) == 127) = true := beq_iff_eq.mpr c3
      have c3b1 : ((wrap64 (Int.tdiv (wrap64 (a0)) 16777216)) != 127) = false := bne_eq_false_iff_eq.mpr c3
      clear c3
      obtain rfl := Option.some.inj H
      go_enter Tryd.func31, Tryd.ntmps31
      go_wp2
      go_ret
      exact ⟨by first | rfl | (simp; done) | (simp [*]; done), by repeat (first | exact Drawn0.refl _ | apply Drawn0.step)⟩
    · rw [if_neg c3] at H
      have c3b0 : ((wrap64 (Int.tdiv (wrap64 (a0)) 16777216)) == 127) = false := beq_eq_false_iff_ne.mpr c3
      have c3b1 : ((wrap64 (Int.tdiv (wrap64 (a0)) 16777216)) != 127) = true := bne_iff_ne.mpr c3
      by_cases c4 : (wrap64 (Int.tdiv (wrap64 (a0)) 16777216)) ≥ 240
      · rw [if_pos c4] at H
        have c4b0 : decide (240 ≤ (wrap64 (Int.tdiv (wrap64 (a0)) 16777216))) = true := decide_eq_true c4
        clear c4
        obtain rfl := Option.some.inj H
        go_enter Tryd.func31, Tryd.ntmps31
        go_wp2
        go_ret
        exact ⟨by first | rfl | (simp; done) | (simp [*]; done), by repeat (first | exact Drawn0.refl _ | apply Drawn0.step)⟩
      · rw [if_neg c4] at H
        have c4b0 : decide (240 ≤ (wrap64 (Int.tdiv (wrap64 (a0)) 16777216))) = false := decide_eq_false c4
        clear c4
        by_cases c5 : (wrap64 (Int.tdiv (wrap64 (a0)) 16777216)) ≥ 224
        · rw [if_pos c5] at H
          have c5b0 : decide (224 ≤ (wrap64 (Int.tdiv (wrap64 (a0)) 16777216))) = true := decide_eq_true c5
          clear c5
          obtain rfl := Option.some.inj H
          go_enter Tryd.func31, Tryd.ntmps31
          go_wp2
          go_ret
          exact ⟨by first | rfl | (simp; done) | (simp [*]; done), by repeat (first | exact Drawn0.refl _ | apply Drawn0.step)⟩
        · rw [if_neg c5] at H
          have c5b0 : decide (224 ≤ (wrap64 (Int.tdiv (wrap64 (a0)) 16777216))) = false := decide_eq_false c5
          clear c5
          obtain rfl := Option.some.inj H
          go_enter Tryd.func31, Tryd.ntmps31
          go_wp2
          go_ret
          exact ⟨by first | rfl | (simp; done) | (simp [*]; done), by repeat (first | exact Drawn0.refl _ | apply Drawn0.step)⟩

/-! ### weftlaw1_holds: function 9 -/
def weftlaw1_holds.j0 : Nat → Bool → Int → Int → Int → Int → Int → Int → Int → Int → Int → Option (Bool)
  | 0, _, _, _, _, _, _, _, _, _, _ => none
  | k + 1, x48, x204000, x204001, x204002, x204003, x204004, x204005, x204006, x204007, x204008 => if x48 = true then (some false) else ((addr_Contains.f k x204001 x204002 x204000).bind fun t212 => ((weftref1_Contains.f k x204001 x204002 x204000).bind fun t213 => (if (t212 != t213) = true then (some false) else ((addr_Class.f x204000).bind fun t214 => ((weftref1_Class.f x204000).bind fun t215 => (some (t214 == t215)))))))
def weftlaw1_holds.f (k : Nat) (a0_0 : Int) (a0_1 : Int) (a0_2 : Int) (a0_3 : Int) (a0_4 : Int) (a0_5 : Int) (a0_6 : Int) (a0_7 : Int) (a0_8 : Int) : Option (Bool) := (addr_Valid.f k a0_1 a0_2).bind fun t204 => ((weftref1_Valid.f k a0_1 a0_2).bind fun t205 => (if (t204 != t205) = true then (some false) else ((addr_Span.f k a0_1 a0_2).bind fun bt206 => ((weftref1_Span.f k a0_1 a0_2).bind fun bt209 => (if bt206.1 = bt209.1 then (if bt206.2.1 = bt209.2.1 then (weftlaw1_holds.j0 k (bt206.2.2 != bt209.2.2) a0_0 a0_1 a0_2 a0_3 a0_4 a0_5 a0_6 a0_7 a0_8) else (weftlaw1_holds.j0 k true a0_0 a0_1 a0_2 a0_3 a0_4 a0_5 a0_6 a0_7 a0_8)) else (weftlaw1_holds.j0 k true a0_0 a0_1 a0_2 a0_3 a0_4 a0_5 a0_6 a0_7 a0_8))))))
theorem weftlaw1_holds.mono_l : ∀ k, (∀ y0 y1 y2 y3 y4 y5 y6 y7 y8 y9, LeO (weftlaw1_holds.j0 k y0 y1 y2 y3 y4 y5 y6 y7 y8 y9) (weftlaw1_holds.j0 (k + 1) y0 y1 y2 y3 y4 y5 y6 y7 y8 y9))
  | 0 => fun _ _ _ _ _ _ _ _ _ _ r h => by simp [weftlaw1_holds.j0] at h
  | k + 1 => by
    have ih0 := weftlaw1_holds.mono_l k
    · intro y0 y1 y2 y3 y4 y5 y6 y7 y8 y9
      unfold weftlaw1_holds.j0
      repeat' first
      | (with_reducible exact ih0 _ _ _ _ _ _ _ _ _ _)
      | (with_reducible exact addr_Contains.mono _ _ _ _)
      | (with_reducible exact addr_Span.mono _ _ _)
      | (with_reducible exact addr_Valid.mono _ _ _)
      | (with_reducible exact weftref1_Contains.mono _ _ _ _)
      | (with_reducible exact weftref1_Span.mono _ _ _)
      | (with_reducible exact weftref1_Valid.mono _ _ _)
      | (with_reducible exact LeO.refl _)
      | (with_reducible exact LeO.none _)
      | (with_reducible refine LeO.ite ?_ ?_)
      | (with_reducible refine LeO.bind ?_ (fun _ => ?_))
      | exact ih0 _ _ _ _ _ _ _ _ _ _
      | exact addr_Contains.mono _ _ _ _
      | exact addr_Span.mono _ _ _
      | exact addr_Valid.mono _ _ _
      | exact weftref1_Contains.mono _ _ _ _
      | exact weftref1_Span.mono _ _ _
      | exact weftref1_Valid.mono _ _ _
      | exact LeO.none _
      | refine LeO.ite ?_ ?_
      | refine LeO.bind ?_ (fun _ => ?_)
theorem weftlaw1_holds.mono : ∀ a0 a1 a2 a3 a4 a5 a6 a7 a8 k, LeO (weftlaw1_holds.f k a0 a1 a2 a3 a4 a5 a6 a7 a8) (weftlaw1_holds.f (k + 1) a0 a1 a2 a3 a4 a5 a6 a7 a8) := by
  intro a0 a1 a2 a3 a4 a5 a6 a7 a8 k
  have ih0 := weftlaw1_holds.mono_l k
  unfold weftlaw1_holds.f
  repeat' first
      | (with_reducible exact ih0 _ _ _ _ _ _ _ _ _ _)
      | (with_reducible exact addr_Contains.mono _ _ _ _)
      | (with_reducible exact addr_Span.mono _ _ _)
      | (with_reducible exact addr_Valid.mono _ _ _)
      | (with_reducible exact weftref1_Contains.mono _ _ _ _)
      | (with_reducible exact weftref1_Span.mono _ _ _)
      | (with_reducible exact weftref1_Valid.mono _ _ _)
      | (with_reducible exact LeO.refl _)
      | (with_reducible exact LeO.none _)
      | (with_reducible refine LeO.ite ?_ ?_)
      | (with_reducible refine LeO.bind ?_ (fun _ => ?_))
      | exact ih0 _ _ _ _ _ _ _ _ _ _
      | exact addr_Contains.mono _ _ _ _
      | exact addr_Span.mono _ _ _
      | exact addr_Valid.mono _ _ _
      | exact weftref1_Contains.mono _ _ _ _
      | exact weftref1_Span.mono _ _ _
      | exact weftref1_Valid.mono _ _ _
      | exact LeO.none _
      | refine LeO.ite ?_ ?_
      | refine LeO.bind ?_ (fun _ => ?_)
set_option maxHeartbeats 8000000 in
set_option maxRecDepth 100000 in
theorem weftlaw1_holds.calls (k : Nat) (a0_0 : Int) (a0_1 : Int) (a0_2 : Int) (a0_3 : Int) (a0_4 : Int) (a0_5 : Int) (a0_6 : Int) (a0_7 : Int) (a0_8 : Int) (r : Bool) (w : World) (hT : Cls w) (h : weftlaw1_holds.f k a0_0 a0_1 a0_2 a0_3 a0_4 a0_5 a0_6 a0_7 a0_8 = some r) :
    Calls Tryd.prog 9 #[.agg #[.int .u32 a0_0, .int .u32 a0_1, .int .i64 a0_2, .int .u8 a0_3, .int .u8 a0_4, .int .u8 a0_5, .int .u8 a0_6, .int .u8 a0_7, .int .u8 a0_8]] w fun e w' => e = .returned (.bool r) ∧ Below w.heap.size w w' := by
  have HT := Aside0.mk hT
  clear hT
  have hu35 := Tryd.underlying35
  have hu31 := Tryd.underlying31
  have HB := Aside0.mk (Below.refl w.heap.size w)
  have H : ((addr_Valid.f k a0_1 a0_2).bind fun t204 => ((weftref1_Valid.f k a0_1 a0_2).bind fun t205 => (if (t204 != t205) = true then (some false) else ((addr_Span.f k a0_1 a0_2).bind fun bt206 => ((weftref1_Span.f k a0_1 a0_2).bind fun bt209 => (if bt206.1 = bt209.1 then (if bt206.2.1 = bt209.2.1 then (weftlaw1_holds.j0 k (bt206.2.2 != bt209.2.2) a0_0 a0_1 a0_2 a0_3 a0_4 a0_5 a0_6 a0_7 a0_8) else (weftlaw1_holds.j0 k true a0_0 a0_1 a0_2 a0_3 a0_4 a0_5 a0_6 a0_7 a0_8)) else (weftlaw1_holds.j0 k true a0_0 a0_1 a0_2 a0_3 a0_4 a0_5 a0_6 a0_7 a0_8))))))) = some r := h
  clear h
  replace H := Option.bind_eq_some_iff.mp H
  obtain ⟨t204, A20, H⟩ := H
  replace H : ((weftref1_Valid.f k a0_1 a0_2).bind fun t205 => (if (t204 != t205) = true then (some false) else ((addr_Span.f k a0_1 a0_2).bind fun bt206 => ((weftref1_Span.f k a0_1 a0_2).bind fun bt209 => (if bt206.1 = bt209.1 then (if bt206.2.1 = bt209.2.1 then (weftlaw1_holds.j0 k (bt206.2.2 != bt209.2.2) a0_0 a0_1 a0_2 a0_3 a0_4 a0_5 a0_6 a0_7 a0_8) else (weftlaw1_holds.j0 k true a0_0 a0_1 a0_2 a0_3 a0_4 a0_5 a0_6 a0_7 a0_8)) else (weftlaw1_holds.j0 k true a0_0 a0_1 a0_2 a0_3 a0_4 a0_5 a0_6 a0_7 a0_8)))))) = some r := H
  have A2 := Aside0.mk A20
  clear A20
  replace H := Option.bind_eq_some_iff.mp H
  obtain ⟨t205, A30, H⟩ := H
  replace H : (if (t204 != t205) = true then (some false) else ((addr_Span.f k a0_1 a0_2).bind fun bt206 => ((weftref1_Span.f k a0_1 a0_2).bind fun bt209 => (if bt206.1 = bt209.1 then (if bt206.2.1 = bt209.2.1 then (weftlaw1_holds.j0 k (bt206.2.2 != bt209.2.2) a0_0 a0_1 a0_2 a0_3 a0_4 a0_5 a0_6 a0_7 a0_8) else (weftlaw1_holds.j0 k true a0_0 a0_1 a0_2 a0_3 a0_4 a0_5 a0_6 a0_7 a0_8)) else (weftlaw1_holds.j0 k true a0_0 a0_1 a0_2 a0_3 a0_4 a0_5 a0_6 a0_7 a0_8))))) = some r := H
  have A3 := Aside0.mk A30
  clear A30
  by_cases c4 : (t204 != t205) = true
  · rw [if_pos c4] at H
    have c4b0 : (t204 != t205) = true := c4
    (try (have c4b1 : decide (t204 = t205) = false := by simpa using c4))
    (try (have c4b2 : (t204 == t205) = false := by simpa using c4))
    (try (have c4b3 : ¬ (t204 = t205) := by simpa using c4))
    clear c4
    obtain rfl := Option.some.inj H
    go_enter Tryd.func9, Tryd.ntmps9
    go_wp2_with (first | ((with_reducible refine gate_dst (N := 1) rfl ?_); refine box_event ?hg (N := 1) ?hd (cs := #[.int .u32 a0_0, .int .u32 a0_1, .int .i64 a0_2, .int .u8 a0_3, .int .u8 a0_4, .int .u8 a0_5, .int .u8 a0_6, .int .u8 a0_7, .int .u8 a0_8]) (t := 35) ?hr ?_; (case hd => rfl); (case hg => rfl); (case hr => first | (go_simp; done) | (go_simp; rfl)); intro gb203 hg w5 hbox hb; have n0_ := Aside0.mk (below_step (by repeat (first | (with_reducible first | exact HB.out | apply below_alloc | apply pw_below_drewN | apply below_drew1) | exact HB.out)) hb); have n1_ := Aside0.mk (hbox); have n2_ := Aside0.mk ((by rw [hg]; exact (below_size (by repeat (first | (with_reducible first | exact HB.out | apply below_alloc | apply pw_below_drewN | apply below_drew1) | exact HB.out))) : w.heap.size ≤ gb203)); have n3_ := Aside0.mk ((by rw [hg]; exact (below_size (by repeat (first | (with_reducible first | exact HB.out | apply below_alloc | apply pw_below_drewN | apply below_drew1) | exact HB.out))) : w.heap.size ≤ gb203)); clear HB; have HB := n0_; have BK203 := n1_; have GW203 := n2_; have GE203 := n3_; clear n0_ n1_ n2_ n3_; clear hb hbox hg; have hcz6_0 : w5.cell? ⟨gb203, 0, none⟩ = some (.int .u32 a0_0) := (blk_cell BK203.out 0).trans rfl; have hcz6_1 : w5.cell? ⟨gb203, 1, none⟩ = some (.int .u32 a0_1) := (blk_cell BK203.out 1).trans rfl; have hcz6_2 : w5.cell? ⟨gb203, 2, none⟩ = some (.int .i64 a0_2) := (blk_cell BK203.out 2).trans rfl; have hcz6_3 : w5.cell? ⟨gb203, 3, none⟩ = some (.int .u8 a0_3) := (blk_cell BK203.out 3).trans rfl; have hcz6_4 : w5.cell? ⟨gb203, 4, none⟩ = some (.int .u8 a0_4) := (blk_cell BK203.out 4).trans rfl; have hcz6_5 : w5.cell? ⟨gb203, 5, none⟩ = some (.int .u8 a0_5) := (blk_cell BK203.out 5).trans rfl; have hcz6_6 : w5.cell? ⟨gb203, 6, none⟩ = some (.int .u8 a0_6) := (blk_cell BK203.out 6).trans rfl; have hcz6_7 : w5.cell? ⟨gb203, 7, none⟩ = some (.int .u8 a0_7) := (blk_cell BK203.out 7).trans rfl; have hcz6_8 : w5.cell? ⟨gb203, 8, none⟩ = some (.int .u8 a0_8) := (blk_cell BK203.out 8).trans rfl; have hfz6_0 := blk_frozen BK203.out 0; have hfz6_1 := blk_frozen BK203.out 1; have hfz6_2 := blk_frozen BK203.out 2; have hfz6_3 := blk_frozen BK203.out 3; have hfz6_4 := blk_frozen BK203.out 4; have hfz6_5 := blk_frozen BK203.out 5; have hfz6_6 := blk_frozen BK203.out 6; have hfz6_7 := blk_frozen BK203.out 7; have hfz6_8 := blk_frozen BK203.out 8) | ((with_reducible refine gate_callee (f := 24) rfl ?_); refine goesL_ (some 15) rfl rfl Tryd.func24 (by kernel_rfl) rfl #[.agg #[.int .u32 a0_1, .int .i64 a0_2]] rfl (by (try simp only [List.map_toArray, List.map_cons, List.map_nil]); first | done | rfl | (simp only [List.length_drop, List.length_take]; rfl)) ?_; (with_reducible refine (addr_Valid.calls k a0_1 a0_2 t204 _ A2.out).mono ?_); rintro e w7 ⟨rfl, hb⟩; refine ⟨_, rfl, ?_⟩; have n0_ := Aside0.mk (blk_below (g := gb203) (o := .cells #[.int .u32 a0_0, .int .u32 a0_1, .int .i64 a0_2, .int .u8 a0_3, .int .u8 a0_4, .int .u8 a0_5, .int .u8 a0_6, .int .u8 a0_7, .int .u8 a0_8] 35 (0, 0)) (by (with_reducible repeat (first | refine blk_drewN ?_ _ | refine blk_drew ?_ | refine blk_alloc ?_ _)); exact BK203.out) hb); have n1_ := Aside0.mk (below_step (by repeat (first | (with_reducible first | exact HB.out | apply below_alloc | apply pw_below_drewN | apply below_drew1 | refine below_set ?_ GE203.out) | exact HB.out)) hb); clear BK203; clear HB; have BK203 := n0_; have HB := n1_; clear n0_ n1_; (try clear hb); (try clear hb2); (try clear hk); (try clear hi); have hcz8_0 : w7.cell? ⟨gb203, 0, none⟩ = some (.int .u32 a0_0) := (blk_cell BK203.out 0).trans rfl; have hcz8_1 : w7.cell? ⟨gb203, 1, none⟩ = some (.int .u32 a0_1) := (blk_cell BK203.out 1).trans rfl; have hcz8_2 : w7.cell? ⟨gb203, 2, none⟩ = some (.int .i64 a0_2) := (blk_cell BK203.out 2).trans rfl; have hcz8_3 : w7.cell? ⟨gb203, 3, none⟩ = some (.int .u8 a0_3) := (blk_cell BK203.out 3).trans rfl; have hcz8_4 : w7.cell? ⟨gb203, 4, none⟩ = some (.int .u8 a0_4) := (blk_cell BK203.out 4).trans rfl; have hcz8_5 : w7.cell? ⟨gb203, 5, none⟩ = some (.int .u8 a0_5) := (blk_cell BK203.out 5).trans rfl; have hcz8_6 : w7.cell? ⟨gb203, 6, none⟩ = some (.int .u8 a0_6) := (blk_cell BK203.out 6).trans rfl; have hcz8_7 : w7.cell? ⟨gb203, 7, none⟩ = some (.int .u8 a0_7) := (blk_cell BK203.out 7).trans rfl; have hcz8_8 : w7.cell? ⟨gb203, 8, none⟩ = some (.int .u8 a0_8) := (blk_cell BK203.out 8).trans rfl; have hfz8_0 := blk_frozen BK203.out 0; have hfz8_1 := blk_frozen BK203.out 1; have hfz8_2 := blk_frozen BK203.out 2; have hfz8_3 := blk_frozen BK203.out 3; have hfz8_4 := blk_frozen BK203.out 4; have hfz8_5 := blk_frozen BK203.out 5; have hfz8_6 := blk_frozen BK203.out 6; have hfz8_7 := blk_frozen BK203.out 7; have hfz8_8 := blk_frozen BK203.out 8) | ((with_reducible refine gate_callee (f := 25) rfl ?_); refine goesL_ (some 18) rfl rfl Tryd.func25 (by kernel_rfl) rfl #[.agg #[.int .u32 a0_1, .int .i64 a0_2]] rfl (by (try simp only [List.map_toArray, List.map_cons, List.map_nil]); first | done | rfl | (simp only [List.length_drop, List.length_take]; rfl)) ?_; (with_reducible refine (weftref1_Valid.calls k a0_1 a0_2 t205 _ A3.out).mono ?_); rintro e w9 ⟨rfl, hb⟩; refine ⟨_, rfl, ?_⟩; have n0_ := Aside0.mk (blk_below (g := gb203) (o := .cells #[.int .u32 a0_0, .int .u32 a0_1, .int .i64 a0_2, .int .u8 a0_3, .int .u8 a0_4, .int .u8 a0_5, .int .u8 a0_6, .int .u8 a0_7, .int .u8 a0_8] 35 (0, 0)) (by (with_reducible repeat (first | refine blk_drewN ?_ _ | refine blk_drew ?_ | refine blk_alloc ?_ _)); exact BK203.out) hb); have n1_ := Aside0.mk (below_step (by repeat (first | (with_reducible first | exact HB.out | apply below_alloc | apply pw_below_drewN | apply below_drew1 | refine below_set ?_ GE203.out) | exact HB.out)) hb); clear BK203; clear HB; have BK203 := n0_; have HB := n1_; clear n0_ n1_; (try clear hb); (try clear hb2); (try clear hk); (try clear hi)))
    go_ret
    exact ⟨by first | rfl | (simp [errW_none, errW_some] <;> rfl) | (simp [*, errW_none, errW_some] <;> rfl), by repeat (first | (with_reducible first | exact HB.out | apply below_alloc | apply pw_below_drewN | apply below_drew1 | refine below_set ?_ GE203.out) | exact HB.out)⟩
  · rw [if_neg c4] at H
    have c4b0 : (t204 != t205) = false := by simpa using c4
    (try (have c4b1 : decide (t204 = t205) = true := by simpa using c4))
    (try (have c4b2 : (t204 == t205) = true := by simpa using c4))
    clear c4
    replace H := Option.bind_eq_some_iff.mp H
    obtain ⟨⟨t206, t207, t208⟩, A100, H⟩ := H
    replace H : ((weftref1_Span.f k a0_1 a0_2).bind fun bt209 => (if t206 = bt209.1 then (if t207 = bt209.2.1 then (weftlaw1_holds.j0 k (t208 != bt209.2.2) a0_0 a0_1 a0_2 a0_3 a0_4 a0_5 a0_6 a0_7 a0_8) else (weftlaw1_holds.j0 k true a0_0 a0_1 a0_2 a0_3 a0_4 a0_5 a0_6 a0_7 a0_8)) else (weftlaw1_holds.j0 k true a0_0 a0_1 a0_2 a0_3 a0_4 a0_5 a0_6 a0_7 a0_8))) = some r := H
    have A10 := Aside0.mk A100
    clear A100
    replace H := Option.bind_eq_some_iff.mp H
    obtain ⟨⟨t209, t210, t211⟩, A110, H⟩ := H
    replace H : (if t206 = t209 then (if t207 = t210 then (weftlaw1_holds.j0 k (t208 != t211) a0_0 a0_1 a0_2 a0_3 a0_4 a0_5 a0_6 a0_7 a0_8) else (weftlaw1_holds.j0 k true a0_0 a0_1 a0_2 a0_3 a0_4 a0_5 a0_6 a0_7 a0_8)) else (weftlaw1_holds.j0 k true a0_0 a0_1 a0_2 a0_3 a0_4 a0_5 a0_6 a0_7 a0_8)) = some r := H
    have A11 := Aside0.mk A110
    clear A110
    have HC12 := Aside0.mk H
    clear H
    go_enter Tryd.func9, Tryd.ntmps9
    go_upto_region 7 with (first | ((with_reducible refine gate_dst (N := 1) rfl ?_); refine box_event ?hg (N := 1) ?hd (cs := #[.int .u32 a0_0, .int .u32 a0_1, .int .i64 a0_2, .int .u8 a0_3, .int .u8 a0_4, .int .u8 a0_5, .int .u8 a0_6, .int .u8 a0_7, .int .u8 a0_8]) (t := 35) ?hr ?_; (case hd => rfl); (case hg => rfl); (case hr => first | (go_simp; done) | (go_simp; rfl)); intro gb203 hg w13 hbox hb; have n0_ := Aside0.mk (below_step (by repeat (first | (with_reducible first | exact HB.out | apply below_alloc | apply pw_below_drewN | apply below_drew1) | exact HB.out)) hb); have n1_ := Aside0.mk (hbox); have n2_ := Aside0.mk ((by rw [hg]; exact (below_size (by repeat (first | (with_reducible first | exact HB.out | apply below_alloc | apply pw_below_drewN | apply below_drew1) | exact HB.out))) : w.heap.size ≤ gb203)); have n3_ := Aside0.mk ((by rw [hg]; exact (below_size (by repeat (first | (with_reducible first | exact HB.out | apply below_alloc | apply pw_below_drewN | apply below_drew1) | exact HB.out))) : w.heap.size ≤ gb203)); clear HB; have HB := n0_; have BK203 := n1_; have GW203 := n2_; have GE203 := n3_; clear n0_ n1_ n2_ n3_; clear hb hbox hg; have hcz14_0 : w13.cell? ⟨gb203, 0, none⟩ = some (.int .u32 a0_0) := (blk_cell BK203.out 0).trans rfl; have hcz14_1 : w13.cell? ⟨gb203, 1, none⟩ = some (.int .u32 a0_1) := (blk_cell BK203.out 1).trans rfl; have hcz14_2 : w13.cell? ⟨gb203, 2, none⟩ = some (.int .i64 a0_2) := (blk_cell BK203.out 2).trans rfl; have hcz14_3 : w13.cell? ⟨gb203, 3, none⟩ = some (.int .u8 a0_3) := (blk_cell BK203.out 3).trans rfl; have hcz14_4 : w13.cell? ⟨gb203, 4, none⟩ = some (.int .u8 a0_4) := (blk_cell BK203.out 4).trans rfl; have hcz14_5 : w13.cell? ⟨gb203, 5, none⟩ = some (.int .u8 a0_5) := (blk_cell BK203.out 5).trans rfl; have hcz14_6 : w13.cell? ⟨gb203, 6, none⟩ = some (.int .u8 a0_6) := (blk_cell BK203.out 6).trans rfl; have hcz14_7 : w13.cell? ⟨gb203, 7, none⟩ = some (.int .u8 a0_7) := (blk_cell BK203.out 7).trans rfl; have hcz14_8 : w13.cell? ⟨gb203, 8, none⟩ = some (.int .u8 a0_8) := (blk_cell BK203.out 8).trans rfl; have hfz14_0 := blk_frozen BK203.out 0; have hfz14_1 := blk_frozen BK203.out 1; have hfz14_2 := blk_frozen BK203.out 2; have hfz14_3 := blk_frozen BK203.out 3; have hfz14_4 := blk_frozen BK203.out 4; have hfz14_5 := blk_frozen BK203.out 5; have hfz14_6 := blk_frozen BK203.out 6; have hfz14_7 := blk_frozen BK203.out 7; have hfz14_8 := blk_frozen BK203.out 8) | ((with_reducible refine gate_callee (f := 24) rfl ?_); refine goesL_ (some 15) rfl rfl Tryd.func24 (by kernel_rfl) rfl #[.agg #[.int .u32 a0_1, .int .i64 a0_2]] rfl (by (try simp only [List.map_toArray, List.map_cons, List.map_nil]); first | done | rfl | (simp only [List.length_drop, List.length_take]; rfl)) ?_; (with_reducible refine (addr_Valid.calls k a0_1 a0_2 t204 _ A2.out).mono ?_); rintro e w15 ⟨rfl, hb⟩; refine ⟨_, rfl, ?_⟩; have n0_ := Aside0.mk (blk_below (g := gb203) (o := .cells #[.int .u32 a0_0, .int .u32 a0_1, .int .i64 a0_2, .int .u8 a0_3, .int .u8 a0_4, .int .u8 a0_5, .int .u8 a0_6, .int .u8 a0_7, .int .u8 a0_8] 35 (0, 0)) (by (with_reducible repeat (first | refine blk_drewN ?_ _ | refine blk_drew ?_ | refine blk_alloc ?_ _)); exact BK203.out) hb); have n1_ := Aside0.mk (below_step (by repeat (first | (with_reducible first | exact HB.out | apply below_alloc | apply pw_below_drewN | apply below_drew1 | refine below_set ?_ GE203.out) | exact HB.out)) hb); clear BK203; clear HB; have BK203 := n0_; have HB := n1_; clear n0_ n1_; (try clear hb); (try clear hb2); (try clear hk); (try clear hi); have hcz16_0 : w15.cell? ⟨gb203, 0, none⟩ = some (.int .u32 a0_0) := (blk_cell BK203.out 0).trans rfl; have hcz16_1 : w15.cell? ⟨gb203, 1, none⟩ = some (.int .u32 a0_1) := (blk_cell BK203.out 1).trans rfl; have hcz16_2 : w15.cell? ⟨gb203, 2, none⟩ = some (.int .i64 a0_2) := (blk_cell BK203.out 2).trans rfl; have hcz16_3 : w15.cell? ⟨gb203, 3, none⟩ = some (.int .u8 a0_3) := (blk_cell BK203.out 3).trans rfl; have hcz16_4 : w15.cell? ⟨gb203, 4, none⟩ = some (.int .u8 a0_4) := (blk_cell BK203.out 4).trans rfl; have hcz16_5 : w15.cell? ⟨gb203, 5, none⟩ = some (.int .u8 a0_5) := (blk_cell BK203.out 5).trans rfl; have hcz16_6 : w15.cell? ⟨gb203, 6, none⟩ = some (.int .u8 a0_6) := (blk_cell BK203.out 6).trans rfl; have hcz16_7 : w15.cell? ⟨gb203, 7, none⟩ = some (.int .u8 a0_7) := (blk_cell BK203.out 7).trans rfl; have hcz16_8 : w15.cell? ⟨gb203, 8, none⟩ = some (.int .u8 a0_8) := (blk_cell BK203.out 8).trans rfl; have hfz16_0 := blk_frozen BK203.out 0; have hfz16_1 := blk_frozen BK203.out 1; have hfz16_2 := blk_frozen BK203.out 2; have hfz16_3 := blk_frozen BK203.out 3; have hfz16_4 := blk_frozen BK203.out 4; have hfz16_5 := blk_frozen BK203.out 5; have hfz16_6 := blk_frozen BK203.out 6; have hfz16_7 := blk_frozen BK203.out 7; have hfz16_8 := blk_frozen BK203.out 8) | ((with_reducible refine gate_callee (f := 25) rfl ?_); refine goesL_ (some 18) rfl rfl Tryd.func25 (by kernel_rfl) rfl #[.agg #[.int .u32 a0_1, .int .i64 a0_2]] rfl (by (try simp only [List.map_toArray, List.map_cons, List.map_nil]); first | done | rfl | (simp only [List.length_drop, List.length_take]; rfl)) ?_; (with_reducible refine (weftref1_Valid.calls k a0_1 a0_2 t205 _ A3.out).mono ?_); rintro e w17 ⟨rfl, hb⟩; refine ⟨_, rfl, ?_⟩; have n0_ := Aside0.mk (blk_below (g := gb203) (o := .cells #[.int .u32 a0_0, .int .u32 a0_1, .int .i64 a0_2, .int .u8 a0_3, .int .u8 a0_4, .int .u8 a0_5, .int .u8 a0_6, .int .u8 a0_7, .int .u8 a0_8] 35 (0, 0)) (by (with_reducible repeat (first | refine blk_drewN ?_ _ | refine blk_drew ?_ | refine blk_alloc ?_ _)); exact BK203.out) hb); have n1_ := Aside0.mk (below_step (by repeat (first | (with_reducible first | exact HB.out | apply below_alloc | apply pw_below_drewN | apply below_drew1 | refine below_set ?_ GE203.out) | exact HB.out)) hb); clear BK203; clear HB; have BK203 := n0_; have HB := n1_; clear n0_ n1_; (try clear hb); (try clear hb2); (try clear hk); (try clear hi); have hcz18_0 : w17.cell? ⟨gb203, 0, none⟩ = some (.int .u32 a0_0) := (blk_cell BK203.out 0).trans rfl; have hcz18_1 : w17.cell? ⟨gb203, 1, none⟩ = some (.int .u32 a0_1) := (blk_cell BK203.out 1).trans rfl; have hcz18_2 : w17.cell? ⟨gb203, 2, none⟩ = some (.int .i64 a0_2) := (blk_cell BK203.out 2).trans rfl; have hcz18_3 : w17.cell? ⟨gb203, 3, none⟩ = some (.int .u8 a0_3) := (blk_cell BK203.out 3).trans rfl; have hcz18_4 : w17.cell? ⟨gb203, 4, none⟩ = some (.int .u8 a0_4) := (blk_cell BK203.out 4).trans rfl; have hcz18_5 : w17.cell? ⟨gb203, 5, none⟩ = some (.int .u8 a0_5) := (blk_cell BK203.out 5).trans rfl; have hcz18_6 : w17.cell? ⟨gb203, 6, none⟩ = some (.int .u8 a0_6) := (blk_cell BK203.out 6).trans rfl; have hcz18_7 : w17.cell? ⟨gb203, 7, none⟩ = some (.int .u8 a0_7) := (blk_cell BK203.out 7).trans rfl; have hcz18_8 : w17.cell? ⟨gb203, 8, none⟩ = some (.int .u8 a0_8) := (blk_cell BK203.out 8).trans rfl; have hfz18_0 := blk_frozen BK203.out 0; have hfz18_1 := blk_frozen BK203.out 1; have hfz18_2 := blk_frozen BK203.out 2; have hfz18_3 := blk_frozen BK203.out 3; have hfz18_4 := blk_frozen BK203.out 4; have hfz18_5 := blk_frozen BK203.out 5; have hfz18_6 := blk_frozen BK203.out 6; have hfz18_7 := blk_frozen BK203.out 7; have hfz18_8 := blk_frozen BK203.out 8) | ((with_reducible refine gate_callee (f := 26) rfl ?_); refine goesL_ (some 25) rfl rfl Tryd.func26 (by kernel_rfl) rfl #[.agg #[.int .u32 a0_1, .int .i64 a0_2]] rfl (by (try simp only [List.map_toArray, List.map_cons, List.map_nil]); first | done | rfl | (simp only [List.length_drop, List.length_take]; rfl)) ?_; (with_reducible refine (addr_Span.calls k a0_1 a0_2 t206 t207 t208 _ A10.out).mono ?_); rintro e w19 ⟨rfl, hb⟩; refine ⟨_, rfl, ?_⟩; have n0_ := Aside0.mk (blk_below (g := gb203) (o := .cells #[.int .u32 a0_0, .int .u32 a0_1, .int .i64 a0_2, .int .u8 a0_3, .int .u8 a0_4, .int .u8 a0_5, .int .u8 a0_6, .int .u8 a0_7, .int .u8 a0_8] 35 (0, 0)) (by (with_reducible repeat (first | refine blk_drewN ?_ _ | refine blk_drew ?_ | refine blk_alloc ?_ _)); exact BK203.out) hb); have n1_ := Aside0.mk (below_step (by repeat (first | (with_reducible first | exact HB.out | apply below_alloc | apply pw_below_drewN | apply below_drew1 | refine below_set ?_ GE203.out) | exact HB.out)) hb); clear BK203; clear HB; have BK203 := n0_; have HB := n1_; clear n0_ n1_; (try clear hb); (try clear hb2); (try clear hk); (try clear hi); have hcz20_0 : w19.cell? ⟨gb203, 0, none⟩ = some (.int .u32 a0_0) := (blk_cell BK203.out 0).trans rfl; have hcz20_1 : w19.cell? ⟨gb203, 1, none⟩ = some (.int .u32 a0_1) := (blk_cell BK203.out 1).trans rfl; have hcz20_2 : w19.cell? ⟨gb203, 2, none⟩ = some (.int .i64 a0_2) := (blk_cell BK203.out 2).trans rfl; have hcz20_3 : w19.cell? ⟨gb203, 3, none⟩ = some (.int .u8 a0_3) := (blk_cell BK203.out 3).trans rfl; have hcz20_4 : w19.cell? ⟨gb203, 4, none⟩ = some (.int .u8 a0_4) := (blk_cell BK203.out 4).trans rfl; have hcz20_5 : w19.cell? ⟨gb203, 5, none⟩ = some (.int .u8 a0_5) := (blk_cell BK203.out 5).trans rfl; have hcz20_6 : w19.cell? ⟨gb203, 6, none⟩ = some (.int .u8 a0_6) := (blk_cell BK203.out 6).trans rfl; have hcz20_7 : w19.cell? ⟨gb203, 7, none⟩ = some (.int .u8 a0_7) := (blk_cell BK203.out 7).trans rfl; have hcz20_8 : w19.cell? ⟨gb203, 8, none⟩ = some (.int .u8 a0_8) := (blk_cell BK203.out 8).trans rfl; have hfz20_0 := blk_frozen BK203.out 0; have hfz20_1 := blk_frozen BK203.out 1; have hfz20_2 := blk_frozen BK203.out 2; have hfz20_3 := blk_frozen BK203.out 3; have hfz20_4 := blk_frozen BK203.out 4; have hfz20_5 := blk_frozen BK203.out 5; have hfz20_6 := blk_frozen BK203.out 6; have hfz20_7 := blk_frozen BK203.out 7; have hfz20_8 := blk_frozen BK203.out 8) | ((with_reducible refine gate_callee (f := 27) rfl ?_); refine goesL_ (some 32) rfl rfl Tryd.func27 (by kernel_rfl) rfl #[.agg #[.int .u32 a0_1, .int .i64 a0_2]] rfl (by (try simp only [List.map_toArray, List.map_cons, List.map_nil]); first | done | rfl | (simp only [List.length_drop, List.length_take]; rfl)) ?_; (with_reducible refine (weftref1_Span.calls k a0_1 a0_2 t209 t210 t211 _ A11.out).mono ?_); rintro e w21 ⟨rfl, hb⟩; refine ⟨_, rfl, ?_⟩; have n0_ := Aside0.mk (blk_below (g := gb203) (o := .cells #[.int .u32 a0_0, .int .u32 a0_1, .int .i64 a0_2, .int .u8 a0_3, .int .u8 a0_4, .int .u8 a0_5, .int .u8 a0_6, .int .u8 a0_7, .int .u8 a0_8] 35 (0, 0)) (by (with_reducible repeat (first | refine blk_drewN ?_ _ | refine blk_drew ?_ | refine blk_alloc ?_ _)); exact BK203.out) hb); have n1_ := Aside0.mk (below_step (by repeat (first | (with_reducible first | exact HB.out | apply below_alloc | apply pw_below_drewN | apply below_drew1 | refine below_set ?_ GE203.out) | exact HB.out)) hb); clear BK203; clear HB; have BK203 := n0_; have HB := n1_; clear n0_ n1_; (try clear hb); (try clear hb2); (try clear hk); (try clear hi)))
    (try simp only [Act.put, List.setIfInBounds_toArray, List.set_cons_zero, List.set_cons_succ])
    go_cut [48] (fun v48 wc => ∃ (kq : Nat) (x48_11 : Bool), v48 = .bool x48_11 ∧ Aside0 (weftlaw1_holds.j0 kq x48_11 a0_0 a0_1 a0_2 a0_3 a0_4 a0_5 a0_6 a0_7 a0_8 = some r) ∧ Aside0 (kq ≤ k) ∧ Aside0 (wc.heap[gb203]? = some (.cells #[.int .u32 a0_0, .int .u32 a0_1, .int .i64 a0_2, .int .u8 a0_3, .int .u8 a0_4, .int .u8 a0_5, .int .u8 a0_6, .int .u8 a0_7, .int .u8 a0_8] 35 (0, 0))) ∧ Aside0 (Below w.heap.size w wc))
    case first =>
      have H := HC12.out
      clear HC12
      by_cases c22 : t206 = t209
      · rw [if_pos c22] at H
        have c22b0 : (t206 == t209) = true := beq_iff_eq.mpr c22
        have c22b1 : (t206 != t209) = false := bne_eq_false_iff_eq.mpr c22
        clear c22
        (first | rw [c22b0] | (simp only [i64_w, i32_w]; rw [c22b0]) | skip)
        by_cases c23 : t207 = t210
        · rw [if_pos c23] at H
          have c23b0 : (t207 == t210) = true := beq_iff_eq.mpr c23
          have c23b1 : (t207 != t210) = false := bne_eq_false_iff_eq.mpr c23
          clear c23
          have H' := Aside0.mk H
          clear H
          go_wp2
          go_meet
          case rel => exact ⟨_, ((t208 != t211)), (by first | rfl | (simp; done) | (simp [*]; done)), H', ⟨by first | omega | exact Nat.le_refl _⟩, ⟨by (with_reducible repeat (first | refine blk_drewN ?_ _ | refine blk_drew ?_ | refine blk_alloc ?_ _)); exact BK203.out⟩, ⟨by repeat (first | (with_reducible first | exact HB.out | apply below_alloc | apply pw_below_drewN | apply below_drew1 | refine below_set ?_ GE203.out) | exact HB.out)⟩⟩
        · rw [if_neg c23] at H
          have c23b0 : (t207 == t210) = false := beq_eq_false_iff_ne.mpr c23
          have c23b1 : (t207 != t210) = true := bne_iff_ne.mpr c23
          have H' := Aside0.mk H
          clear H
          go_wp2
          go_meet
          case rel => exact ⟨_, (true), (by first | rfl | (simp; done) | (simp [*]; done)), H', ⟨by first | omega | exact Nat.le_refl _⟩, ⟨by (with_reducible repeat (first | refine blk_drewN ?_ _ | refine blk_drew ?_ | refine blk_alloc ?_ _)); exact BK203.out⟩, ⟨by repeat (first | (with_reducible first | exact HB.out | apply below_alloc | apply pw_below_drewN | apply below_drew1 | refine below_set ?_ GE203.out) | exact HB.out)⟩⟩
      · rw [if_neg c22] at H
        have c22b0 : (t206 == t209) = false := beq_eq_false_iff_ne.mpr c22
        have c22b1 : (t206 != t209) = true := bne_iff_ne.mpr c22
        (first | rw [c22b0] | (simp only [i64_w, i32_w]; rw [c22b0]) | skip)
        have H' := Aside0.mk H
        clear H
        go_wp2
        go_meet
        case rel => exact ⟨_, (true), (by first | rfl | (simp; done) | (simp [*]; done)), H', ⟨by first | omega | exact Nat.le_refl _⟩, ⟨by (with_reducible repeat (first | refine blk_drewN ?_ _ | refine blk_drew ?_ | refine blk_alloc ?_ _)); exact BK203.out⟩, ⟨by repeat (first | (with_reducible first | exact HB.out | apply below_alloc | apply pw_below_drewN | apply below_drew1 | refine below_set ?_ GE203.out) | exact HB.out)⟩⟩
    case rest =>
      clear HC12
      try clear c2
      try clear p2
      try clear c4
      try clear c4b0
      try clear c4b1
      try clear c4b2
      try clear c9
      try clear c22
      try clear c22b0
      try clear c22b1
      try clear c23
      try clear c23b0
      try clear c23b1
      try clear hcz14_0
      try clear hcz14_1
      try clear hcz14_2
      try clear hcz14_3
      try clear hcz14_4
      try clear hcz14_5
      try clear hcz14_6
      try clear hcz14_7
      try clear hcz14_8
      try clear hcz16_0
      try clear hcz16_1
      try clear hcz16_2
      try clear hcz16_3
      try clear hcz16_4
      try clear hcz16_5
      try clear hcz16_6
      try clear hcz16_7
      try clear hcz16_8
      try clear hcz18_0
      try clear hcz18_1
      try clear hcz18_2
      try clear hcz18_3
      try clear hcz18_4
      try clear hcz18_5
      try clear hcz18_6
      try clear hcz18_7
      try clear hcz18_8
      try clear hcz20_0
      try clear hcz20_1
      try clear hcz20_2
      try clear hcz20_3
      try clear hcz20_4
      try clear hcz20_5
      try clear hcz20_6
      try clear hcz20_7
      try clear hcz20_8
      try clear hcz6_0
      try clear hcz6_1
      try clear hcz6_2
      try clear hcz6_3
      try clear hcz6_4
      try clear hcz6_5
      try clear hcz6_6
      try clear hcz6_7
      try clear hcz6_8
      try clear hcz8_0
      try clear hcz8_1
      try clear hcz8_2
      try clear hcz8_3
      try clear hcz8_4
      try clear hcz8_5
      try clear hcz8_6
      try clear hcz8_7
      try clear hcz8_8
      try clear hfz14_0
      try clear hfz14_1
      try clear hfz14_2
      try clear hfz14_3
      try clear hfz14_4
      try clear hfz14_5
      try clear hfz14_6
      try clear hfz14_7
      try clear hfz14_8
      try clear hfz16_0
      try clear hfz16_1
      try clear hfz16_2
      try clear hfz16_3
      try clear hfz16_4
      try clear hfz16_5
      try clear hfz16_6
      try clear hfz16_7
      try clear hfz16_8
      try clear hfz18_0
      try clear hfz18_1
      try clear hfz18_2
      try clear hfz18_3
      try clear hfz18_4
      try clear hfz18_5
      try clear hfz18_6
      try clear hfz18_7
      try clear hfz18_8
      try clear hfz20_0
      try clear hfz20_1
      try clear hfz20_2
      try clear hfz20_3
      try clear hfz20_4
      try clear hfz20_5
      try clear hfz20_6
      try clear hfz20_7
      try clear hfz20_8
      try clear hfz6_0
      try clear hfz6_1
      try clear hfz6_2
      try clear hfz6_3
      try clear hfz6_4
      try clear hfz6_5
      try clear hfz6_6
      try clear hfz6_7
      try clear hfz6_8
      try clear hfz8_0
      try clear hfz8_1
      try clear hfz8_2
      try clear hfz8_3
      try clear hfz8_4
      try clear hfz8_5
      try clear hfz8_6
      try clear hfz8_7
      try clear hfz8_8
      obtain ⟨kq, x48_11, rfl, HA, HJ11, BK203, HB⟩ := hcut
      cases kq with
      | zero => exact absurd HA.out (by simp [weftlaw1_holds.j0])
      | succ kj11 =>
        have H := HA.out
        clear HA
        simp only [weftlaw1_holds.j0] at H
        by_cases c24 : x48_11 = true
        · subst c24
          have H1 : (some false) = some r := by rw [if_pos rfl] at H; exact H
          clear H
          have H := H1
          clear H1
          obtain rfl := Option.some.inj H
          go_wp2
          go_ret
          exact ⟨by first | rfl | (simp [errW_none, errW_some] <;> rfl) | (simp [*, errW_none, errW_some] <;> rfl), by repeat (first | (with_reducible first | exact HB.out | apply below_alloc | apply pw_below_drewN | apply below_drew1 | refine below_set ?_ GE203.out) | exact HB.out)⟩
        · replace c24 := Bool.eq_false_iff.mpr c24
          subst c24
          have H1 : ((addr_Contains.f kj11 a0_1 a0_2 a0_0).bind fun t212 => ((weftref1_Contains.f kj11 a0_1 a0_2 a0_0).bind fun t213 => (if (t212 != t213) = true then (some false) else ((addr_Class.f a0_0).bind fun t214 => ((weftref1_Class.f a0_0).bind fun t215 => (some (t214 == t215))))))) = some r := by rw [if_neg (show ¬ (false = true) by decide)] at H; exact H
          clear H
          have H := H1
          clear H1
          replace H := Option.bind_eq_some_iff.mp H
          obtain ⟨t212, A250, H⟩ := H
          replace H : ((weftref1_Contains.f kj11 a0_1 a0_2 a0_0).bind fun t213 => (if (t212 != t213) = true then (some false) else ((addr_Class.f a0_0).bind fun t214 => ((weftref1_Class.f a0_0).bind fun t215 => (some (t214 == t215)))))) = some r := H
          have A25 := Aside0.mk A250
          clear A250
          replace H := Option.bind_eq_some_iff.mp H
          obtain ⟨t213, A260, H⟩ := H
          replace H : (if (t212 != t213) = true then (some false) else ((addr_Class.f a0_0).bind fun t214 => ((weftref1_Class.f a0_0).bind fun t215 => (some (t214 == t215))))) = some r := H
          have A26 := Aside0.mk A260
          clear A260
          by_cases c27 : (t212 != t213) = true
          · rw [if_pos c27] at H
            have c27b0 : (t212 != t213) = true := c27
            (try (have c27b1 : decide (t212 = t213) = false := by simpa using c27))
            (try (have c27b2 : (t212 == t213) = false := by simpa using c27))
            (try (have c27b3 : ¬ (t212 = t213) := by simpa using c27))
            clear c27
            obtain rfl := Option.some.inj H
            have hcz28_0 : wc.cell? ⟨gb203, 0, none⟩ = some (.int .u32 a0_0) := (blk_cell BK203.out 0).trans rfl
            have hcz28_1 : wc.cell? ⟨gb203, 1, none⟩ = some (.int .u32 a0_1) := (blk_cell BK203.out 1).trans rfl
            have hcz28_2 : wc.cell? ⟨gb203, 2, none⟩ = some (.int .i64 a0_2) := (blk_cell BK203.out 2).trans rfl
            have hcz28_3 : wc.cell? ⟨gb203, 3, none⟩ = some (.int .u8 a0_3) := (blk_cell BK203.out 3).trans rfl
            have hcz28_4 : wc.cell? ⟨gb203, 4, none⟩ = some (.int .u8 a0_4) := (blk_cell BK203.out 4).trans rfl
            have hcz28_5 : wc.cell? ⟨gb203, 5, none⟩ = some (.int .u8 a0_5) := (blk_cell BK203.out 5).trans rfl
            have hcz28_6 : wc.cell? ⟨gb203, 6, none⟩ = some (.int .u8 a0_6) := (blk_cell BK203.out 6).trans rfl
            have hcz28_7 : wc.cell? ⟨gb203, 7, none⟩ = some (.int .u8 a0_7) := (blk_cell BK203.out 7).trans rfl
            have hcz28_8 : wc.cell? ⟨gb203, 8, none⟩ = some (.int .u8 a0_8) := (blk_cell BK203.out 8).trans rfl
            have hfz28_0 := blk_frozen BK203.out 0
            have hfz28_1 := blk_frozen BK203.out 1
            have hfz28_2 := blk_frozen BK203.out 2
            have hfz28_3 := blk_frozen BK203.out 3
            have hfz28_4 := blk_frozen BK203.out 4
            have hfz28_5 := blk_frozen BK203.out 5
            have hfz28_6 := blk_frozen BK203.out 6
            have hfz28_7 := blk_frozen BK203.out 7
            have hfz28_8 := blk_frozen BK203.out 8
            go_wp2_with (first | ((with_reducible refine gate_callee (f := 28) rfl ?_); refine goesL_ (some 53) rfl rfl Tryd.func28 (by kernel_rfl) rfl #[.agg #[.int .u32 a0_1, .int .i64 a0_2], .int .u32 a0_0] rfl (by (try simp only [List.map_toArray, List.map_cons, List.map_nil]); first | done | rfl | (simp only [List.length_drop, List.length_take]; rfl)) ?_; (with_reducible refine (addr_Contains.calls kj11 a0_1 a0_2 a0_0 t212 _ A25.out).mono ?_); rintro e w29 ⟨rfl, hb⟩; refine ⟨_, rfl, ?_⟩; have n0_ := Aside0.mk (blk_below (g := gb203) (o := .cells #[.int .u32 a0_0, .int .u32 a0_1, .int .i64 a0_2, .int .u8 a0_3, .int .u8 a0_4, .int .u8 a0_5, .int .u8 a0_6, .int .u8 a0_7, .int .u8 a0_8] 35 (0, 0)) (by (with_reducible repeat (first | refine blk_drewN ?_ _ | refine blk_drew ?_ | refine blk_alloc ?_ _)); exact BK203.out) hb); have n1_ := Aside0.mk (below_step (by repeat (first | (with_reducible first | exact HB.out | apply below_alloc | apply pw_below_drewN | apply below_drew1 | refine below_set ?_ GE203.out) | exact HB.out)) hb); clear BK203; clear HB; have BK203 := n0_; have HB := n1_; clear n0_ n1_; (try clear hb); (try clear hb2); (try clear hk); (try clear hi); have hcz30_0 : w29.cell? ⟨gb203, 0, none⟩ = some (.int .u32 a0_0) := (blk_cell BK203.out 0).trans rfl; have hcz30_1 : w29.cell? ⟨gb203, 1, none⟩ = some (.int .u32 a0_1) := (blk_cell BK203.out 1).trans rfl; have hcz30_2 : w29.cell? ⟨gb203, 2, none⟩ = some (.int .i64 a0_2) := (blk_cell BK203.out 2).trans rfl; have hcz30_3 : w29.cell? ⟨gb203, 3, none⟩ = some (.int .u8 a0_3) := (blk_cell BK203.out 3).trans rfl; have hcz30_4 : w29.cell? ⟨gb203, 4, none⟩ = some (.int .u8 a0_4) := (blk_cell BK203.out 4).trans rfl; have hcz30_5 : w29.cell? ⟨gb203, 5, none⟩ = some (.int .u8 a0_5) := (blk_cell BK203.out 5).trans rfl; have hcz30_6 : w29.cell? ⟨gb203, 6, none⟩ = some (.int .u8 a0_6) := (blk_cell BK203.out 6).trans rfl; have hcz30_7 : w29.cell? ⟨gb203, 7, none⟩ = some (.int .u8 a0_7) := (blk_cell BK203.out 7).trans rfl; have hcz30_8 : w29.cell? ⟨gb203, 8, none⟩ = some (.int .u8 a0_8) := (blk_cell BK203.out 8).trans rfl; have hfz30_0 := blk_frozen BK203.out 0; have hfz30_1 := blk_frozen BK203.out 1; have hfz30_2 := blk_frozen BK203.out 2; have hfz30_3 := blk_frozen BK203.out 3; have hfz30_4 := blk_frozen BK203.out 4; have hfz30_5 := blk_frozen BK203.out 5; have hfz30_6 := blk_frozen BK203.out 6; have hfz30_7 := blk_frozen BK203.out 7; have hfz30_8 := blk_frozen BK203.out 8) | ((with_reducible refine gate_callee (f := 29) rfl ?_); refine goesL_ (some 58) rfl rfl Tryd.func29 (by kernel_rfl) rfl #[.agg #[.int .u32 a0_1, .int .i64 a0_2], .int .u32 a0_0] rfl (by (try simp only [List.map_toArray, List.map_cons, List.map_nil]); first | done | rfl | (simp only [List.length_drop, List.length_take]; rfl)) ?_; (with_reducible refine (weftref1_Contains.calls kj11 a0_1 a0_2 a0_0 t213 _ A26.out).mono ?_); rintro e w31 ⟨rfl, hb⟩; refine ⟨_, rfl, ?_⟩; have n0_ := Aside0.mk (blk_below (g := gb203) (o := .cells #[.int .u32 a0_0, .int .u32 a0_1, .int .i64 a0_2, .int .u8 a0_3, .int .u8 a0_4, .int .u8 a0_5, .int .u8 a0_6, .int .u8 a0_7, .int .u8 a0_8] 35 (0, 0)) (by (with_reducible repeat (first | refine blk_drewN ?_ _ | refine blk_drew ?_ | refine blk_alloc ?_ _)); exact BK203.out) hb); have n1_ := Aside0.mk (below_step (by repeat (first | (with_reducible first | exact HB.out | apply below_alloc | apply pw_below_drewN | apply below_drew1 | refine below_set ?_ GE203.out) | exact HB.out)) hb); clear BK203; clear HB; have BK203 := n0_; have HB := n1_; clear n0_ n1_; (try clear hb); (try clear hb2); (try clear hk); (try clear hi)))
            go_ret
            exact ⟨by first | rfl | (simp [errW_none, errW_some] <;> rfl) | (simp [*, errW_none, errW_some] <;> rfl), by repeat (first | (with_reducible first | exact HB.out | apply below_alloc | apply pw_below_drewN | apply below_drew1 | refine below_set ?_ GE203.out) | exact HB.out)⟩
          · rw [if_neg c27] at H
            have c27b0 : (t212 != t213) = false := by simpa using c27
            (try (have c27b1 : decide (t212 = t213) = true := by simpa using c27))
            (try (have c27b2 : (t212 == t213) = true := by simpa using c27))
            clear c27
            replace H := Option.bind_eq_some_iff.mp H
            obtain ⟨t214, A320, H⟩ := H
            replace H : ((weftref1_Class.f a0_0).bind fun t215 => (some (t214 == t215))) = some r := H
            have A32 := Aside0.mk A320
            clear A320
            replace H := Option.bind_eq_some_iff.mp H
            obtain ⟨t215, A330, H⟩ := H
            replace H : (some (t214 == t215)) = some r := H
            have A33 := Aside0.mk A330
            clear A330
            obtain rfl := Option.some.inj H
            have hcz34_0 : wc.cell? ⟨gb203, 0, none⟩ = some (.int .u32 a0_0) := (blk_cell BK203.out 0).trans rfl
            have hcz34_1 : wc.cell? ⟨gb203, 1, none⟩ = some (.int .u32 a0_1) := (blk_cell BK203.out 1).trans rfl
            have hcz34_2 : wc.cell? ⟨gb203, 2, none⟩ = some (.int .i64 a0_2) := (blk_cell BK203.out 2).trans rfl
            have hcz34_3 : wc.cell? ⟨gb203, 3, none⟩ = some (.int .u8 a0_3) := (blk_cell BK203.out 3).trans rfl
            have hcz34_4 : wc.cell? ⟨gb203, 4, none⟩ = some (.int .u8 a0_4) := (blk_cell BK203.out 4).trans rfl
            have hcz34_5 : wc.cell? ⟨gb203, 5, none⟩ = some (.int .u8 a0_5) := (blk_cell BK203.out 5).trans rfl
            have hcz34_6 : wc.cell? ⟨gb203, 6, none⟩ = some (.int .u8 a0_6) := (blk_cell BK203.out 6).trans rfl
            have hcz34_7 : wc.cell? ⟨gb203, 7, none⟩ = some (.int .u8 a0_7) := (blk_cell BK203.out 7).trans rfl
            have hcz34_8 : wc.cell? ⟨gb203, 8, none⟩ = some (.int .u8 a0_8) := (blk_cell BK203.out 8).trans rfl
            have hfz34_0 := blk_frozen BK203.out 0
            have hfz34_1 := blk_frozen BK203.out 1
            have hfz34_2 := blk_frozen BK203.out 2
            have hfz34_3 := blk_frozen BK203.out 3
            have hfz34_4 := blk_frozen BK203.out 4
            have hfz34_5 := blk_frozen BK203.out 5
            have hfz34_6 := blk_frozen BK203.out 6
            have hfz34_7 := blk_frozen BK203.out 7
            have hfz34_8 := blk_frozen BK203.out 8
            go_wp2_with (first | ((with_reducible refine gate_callee (f := 28) rfl ?_); refine goesL_ (some 53) rfl rfl Tryd.func28 (by kernel_rfl) rfl #[.agg #[.int .u32 a0_1, .int .i64 a0_2], .int .u32 a0_0] rfl (by (try simp only [List.map_toArray, List.map_cons, List.map_nil]); first | done | rfl | (simp only [List.length_drop, List.length_take]; rfl)) ?_; (with_reducible refine (addr_Contains.calls kj11 a0_1 a0_2 a0_0 t212 _ A25.out).mono ?_); rintro e w35 ⟨rfl, hb⟩; refine ⟨_, rfl, ?_⟩; have n0_ := Aside0.mk (blk_below (g := gb203) (o := .cells #[.int .u32 a0_0, .int .u32 a0_1, .int .i64 a0_2, .int .u8 a0_3, .int .u8 a0_4, .int .u8 a0_5, .int .u8 a0_6, .int .u8 a0_7, .int .u8 a0_8] 35 (0, 0)) (by (with_reducible repeat (first | refine blk_drewN ?_ _ | refine blk_drew ?_ | refine blk_alloc ?_ _)); exact BK203.out) hb); have n1_ := Aside0.mk (below_step (by repeat (first | (with_reducible first | exact HB.out | apply below_alloc | apply pw_below_drewN | apply below_drew1 | refine below_set ?_ GE203.out) | exact HB.out)) hb); clear BK203; clear HB; have BK203 := n0_; have HB := n1_; clear n0_ n1_; (try clear hb); (try clear hb2); (try clear hk); (try clear hi); have hcz36_0 : w35.cell? ⟨gb203, 0, none⟩ = some (.int .u32 a0_0) := (blk_cell BK203.out 0).trans rfl; have hcz36_1 : w35.cell? ⟨gb203, 1, none⟩ = some (.int .u32 a0_1) := (blk_cell BK203.out 1).trans rfl; have hcz36_2 : w35.cell? ⟨gb203, 2, none⟩ = some (.int .i64 a0_2) := (blk_cell BK203.out 2).trans rfl; have hcz36_3 : w35.cell? ⟨gb203, 3, none⟩ = some (.int .u8 a0_3) := (blk_cell BK203.out 3).trans rfl; have hcz36_4 : w35.cell? ⟨gb203, 4, none⟩ = some (.int .u8 a0_4) := (blk_cell BK203.out 4).trans rfl; have hcz36_5 : w35.cell? ⟨gb203, 5, none⟩ = some (.int .u8 a0_5) := (blk_cell BK203.out 5).trans rfl; have hcz36_6 : w35.cell? ⟨gb203, 6, none⟩ = some (.int .u8 a0_6) := (blk_cell BK203.out 6).trans rfl; have hcz36_7 : w35.cell? ⟨gb203, 7, none⟩ = some (.int .u8 a0_7) := (blk_cell BK203.out 7).trans rfl; have hcz36_8 : w35.cell? ⟨gb203, 8, none⟩ = some (.int .u8 a0_8) := (blk_cell BK203.out 8).trans rfl; have hfz36_0 := blk_frozen BK203.out 0; have hfz36_1 := blk_frozen BK203.out 1; have hfz36_2 := blk_frozen BK203.out 2; have hfz36_3 := blk_frozen BK203.out 3; have hfz36_4 := blk_frozen BK203.out 4; have hfz36_5 := blk_frozen BK203.out 5; have hfz36_6 := blk_frozen BK203.out 6; have hfz36_7 := blk_frozen BK203.out 7; have hfz36_8 := blk_frozen BK203.out 8) | ((with_reducible refine gate_callee (f := 29) rfl ?_); refine goesL_ (some 58) rfl rfl Tryd.func29 (by kernel_rfl) rfl #[.agg #[.int .u32 a0_1, .int .i64 a0_2], .int .u32 a0_0] rfl (by (try simp only [List.map_toArray, List.map_cons, List.map_nil]); first | done | rfl | (simp only [List.length_drop, List.length_take]; rfl)) ?_; (with_reducible refine (weftref1_Contains.calls kj11 a0_1 a0_2 a0_0 t213 _ A26.out).mono ?_); rintro e w37 ⟨rfl, hb⟩; refine ⟨_, rfl, ?_⟩; have n0_ := Aside0.mk (blk_below (g := gb203) (o := .cells #[.int .u32 a0_0, .int .u32 a0_1, .int .i64 a0_2, .int .u8 a0_3, .int .u8 a0_4, .int .u8 a0_5, .int .u8 a0_6, .int .u8 a0_7, .int .u8 a0_8] 35 (0, 0)) (by (with_reducible repeat (first | refine blk_drewN ?_ _ | refine blk_drew ?_ | refine blk_alloc ?_ _)); exact BK203.out) hb); have n1_ := Aside0.mk (below_step (by repeat (first | (with_reducible first | exact HB.out | apply below_alloc | apply pw_below_drewN | apply below_drew1 | refine below_set ?_ GE203.out) | exact HB.out)) hb); clear BK203; clear HB; have BK203 := n0_; have HB := n1_; clear n0_ n1_; (try clear hb); (try clear hb2); (try clear hk); (try clear hi); have hcz38_0 : w37.cell? ⟨gb203, 0, none⟩ = some (.int .u32 a0_0) := (blk_cell BK203.out 0).trans rfl; have hcz38_1 : w37.cell? ⟨gb203, 1, none⟩ = some (.int .u32 a0_1) := (blk_cell BK203.out 1).trans rfl; have hcz38_2 : w37.cell? ⟨gb203, 2, none⟩ = some (.int .i64 a0_2) := (blk_cell BK203.out 2).trans rfl; have hcz38_3 : w37.cell? ⟨gb203, 3, none⟩ = some (.int .u8 a0_3) := (blk_cell BK203.out 3).trans rfl; have hcz38_4 : w37.cell? ⟨gb203, 4, none⟩ = some (.int .u8 a0_4) := (blk_cell BK203.out 4).trans rfl; have hcz38_5 : w37.cell? ⟨gb203, 5, none⟩ = some (.int .u8 a0_5) := (blk_cell BK203.out 5).trans rfl; have hcz38_6 : w37.cell? ⟨gb203, 6, none⟩ = some (.int .u8 a0_6) := (blk_cell BK203.out 6).trans rfl; have hcz38_7 : w37.cell? ⟨gb203, 7, none⟩ = some (.int .u8 a0_7) := (blk_cell BK203.out 7).trans rfl; have hcz38_8 : w37.cell? ⟨gb203, 8, none⟩ = some (.int .u8 a0_8) := (blk_cell BK203.out 8).trans rfl; have hfz38_0 := blk_frozen BK203.out 0; have hfz38_1 := blk_frozen BK203.out 1; have hfz38_2 := blk_frozen BK203.out 2; have hfz38_3 := blk_frozen BK203.out 3; have hfz38_4 := blk_frozen BK203.out 4; have hfz38_5 := blk_frozen BK203.out 5; have hfz38_6 := blk_frozen BK203.out 6; have hfz38_7 := blk_frozen BK203.out 7; have hfz38_8 := blk_frozen BK203.out 8) | ((with_reducible refine gate_callee (f := 30) rfl ?_); refine goesL_ (some 64) rfl rfl Tryd.func30 (by kernel_rfl) rfl #[.int .u32 a0_0] rfl (by (try simp only [List.map_toArray, List.map_cons, List.map_nil]); first | done | rfl | (simp only [List.length_drop, List.length_take]; rfl)) ?_; (with_reducible refine (addr_Class.calls a0_0 t214 _ (by first | exact HT.out | exact HT.out.on HB.out | exact HT.out.drewN _ | exact (HT.out.on HB.out).drewN _ | (refine HT.out.on ?_; repeat (first | (with_reducible first | exact HB.out | apply below_alloc | apply pw_below_drewN | apply below_drew1) | refine below_set ?_ (Aside0.out (by assumption)) | exact HB.out | exact Below.refl _ _))) A32.out).mono ?_); rintro e w39 ⟨rfl, hb⟩; refine ⟨_, rfl, ?_⟩; have n0_ := Aside0.mk (blk_below (g := gb203) (o := .cells #[.int .u32 a0_0, .int .u32 a0_1, .int .i64 a0_2, .int .u8 a0_3, .int .u8 a0_4, .int .u8 a0_5, .int .u8 a0_6, .int .u8 a0_7, .int .u8 a0_8] 35 (0, 0)) (by (with_reducible repeat (first | refine blk_drewN ?_ _ | refine blk_drew ?_ | refine blk_alloc ?_ _)); exact BK203.out) hb); have n1_ := Aside0.mk (below_step (by repeat (first | (with_reducible first | exact HB.out | apply below_alloc | apply pw_below_drewN | apply below_drew1 | refine below_set ?_ GE203.out) | exact HB.out)) hb); clear BK203; clear HB; have BK203 := n0_; have HB := n1_; clear n0_ n1_; (try clear hb); (try clear hb2); (try clear hk); (try clear hi); have hcz40_0 : w39.cell? ⟨gb203, 0, none⟩ = some (.int .u32 a0_0) := (blk_cell BK203.out 0).trans rfl; have hcz40_1 : w39.cell? ⟨gb203, 1, none⟩ = some (.int .u32 a0_1) := (blk_cell BK203.out 1).trans rfl; have hcz40_2 : w39.cell? ⟨gb203, 2, none⟩ = some (.int .i64 a0_2) := (blk_cell BK203.out 2).trans rfl; have hcz40_3 : w39.cell? ⟨gb203, 3, none⟩ = some (.int .u8 a0_3) := (blk_cell BK203.out 3).trans rfl; have hcz40_4 : w39.cell? ⟨gb203, 4, none⟩ = some (.int .u8 a0_4) := (blk_cell BK203.out 4).trans rfl; have hcz40_5 : w39.cell? ⟨gb203, 5, none⟩ = some (.int .u8 a0_5) := (blk_cell BK203.out 5).trans rfl; have hcz40_6 : w39.cell? ⟨gb203, 6, none⟩ = some (.int .u8 a0_6) := (blk_cell BK203.out 6).trans rfl; have hcz40_7 : w39.cell? ⟨gb203, 7, none⟩ = some (.int .u8 a0_7) := (blk_cell BK203.out 7).trans rfl; have hcz40_8 : w39.cell? ⟨gb203, 8, none⟩ = some (.int .u8 a0_8) := (blk_cell BK203.out 8).trans rfl; have hfz40_0 := blk_frozen BK203.out 0; have hfz40_1 := blk_frozen BK203.out 1; have hfz40_2 := blk_frozen BK203.out 2; have hfz40_3 := blk_frozen BK203.out 3; have hfz40_4 := blk_frozen BK203.out 4; have hfz40_5 := blk_frozen BK203.out 5; have hfz40_6 := blk_frozen BK203.out 6; have hfz40_7 := blk_frozen BK203.out 7; have hfz40_8 := blk_frozen BK203.out 8) | ((with_reducible refine gate_callee (f := 31) rfl ?_); refine goesL_ (some 67) rfl rfl Tryd.func31 (by kernel_rfl) rfl #[.int .u32 a0_0] rfl (by (try simp only [List.map_toArray, List.map_cons, List.map_nil]); first | done | rfl | (simp only [List.length_drop, List.length_take]; rfl)) ?_; (with_reducible refine (weftref1_Class.calls a0_0 t215 _ A33.out).mono ?_); rintro e w' ⟨rfl, ⟨nd, rfl⟩⟩; refine ⟨_, rfl, ?_⟩))
            go_ret
            exact ⟨by first | rfl | (simp [errW_none, errW_some] <;> rfl) | (simp [*, errW_none, errW_some] <;> rfl), by repeat (first | (with_reducible first | exact HB.out | apply below_alloc | apply pw_below_drewN | apply below_drew1 | refine below_set ?_ GE203.out) | exact HB.out)⟩

/-! ### weftlaw1_AddrFormats: function 4 -/
def weftlaw1_AddrFormats.l0 : Nat → List (S35) → Int → Option (Bool)
  | 0, _, _ => none
  | k + 1, x0, x4 => if x4 < (x0.length : Int) then (if 0 ≤ x4 then ((weftlaw1_formats.f k ((rd_T35 x0 x4).f0) ((rd_T35 x0 x4).f1.f0) ((rd_T35 x0 x4).f1.f1) ((rd_T35 x0 x4).f2.f0) ((rd_T35 x0 x4).f2.f1) ((rd_T35 x0 x4).f2.f2) ((rd_T35 x0 x4).f2.f3) ((rd_T35 x0 x4).f2.f4) ((rd_T35 x0 x4).f2.f5)).bind fun t218 => (if t218 = true then ((weftlaw1_holds.f k ((rd_T35 x0 x4).f0) ((rd_T35 x0 x4).f1.f0) ((rd_T35 x0 x4).f1.f1) ((rd_T35 x0 x4).f2.f0) ((rd_T35 x0 x4).f2.f1) ((rd_T35 x0 x4).f2.f2) ((rd_T35 x0 x4).f2.f3) ((rd_T35 x0 x4).f2.f4) ((rd_T35 x0 x4).f2.f5)).bind fun t220 => (if t220 = true then (weftlaw1_AddrFormats.l0 k x0 (wrap64 (x4 + 1))) else (some false))) else (some false))) else (none)) else (some true)
def weftlaw1_AddrFormats.f (k : Nat) (l0 : List (S35)) : Option (Bool) := (weftlaw1_begun.f k).bind fun t216 => (if t216 = true then (weftlaw1_AddrFormats.l0 k l0 0) else (some false))
theorem weftlaw1_AddrFormats.mono_l : ∀ k, (∀ y0 y1, LeO (weftlaw1_AddrFormats.l0 k y0 y1) (weftlaw1_AddrFormats.l0 (k + 1) y0 y1))
  | 0 => fun _ _ r h => by simp [weftlaw1_AddrFormats.l0] at h
  | k + 1 => by
    have ih0 := weftlaw1_AddrFormats.mono_l k
    · intro y0 y1
      unfold weftlaw1_AddrFormats.l0
      repeat' first
      | (with_reducible exact ih0 _ _)
      | (with_reducible exact weftlaw1_begun.mono _)
      | (with_reducible exact weftlaw1_formats.mono _ _ _ _ _ _ _ _ _ _)
      | (with_reducible exact weftlaw1_holds.mono _ _ _ _ _ _ _ _ _ _)
      | (with_reducible exact LeO.refl _)
      | (with_reducible exact LeO.none _)
      | (with_reducible refine LeO.ite ?_ ?_)
      | (with_reducible refine LeO.bind ?_ (fun _ => ?_))
      | exact ih0 _ _
      | exact weftlaw1_begun.mono _
      | exact weftlaw1_formats.mono _ _ _ _ _ _ _ _ _ _
      | exact weftlaw1_holds.mono _ _ _ _ _ _ _ _ _ _
      | exact LeO.none _
      | refine LeO.ite ?_ ?_
      | refine LeO.bind ?_ (fun _ => ?_)
theorem weftlaw1_AddrFormats.mono : ∀ a0 k, LeO (weftlaw1_AddrFormats.f k a0) (weftlaw1_AddrFormats.f (k + 1) a0) := by
  intro a0 k
  have ih0 := weftlaw1_AddrFormats.mono_l k
  unfold weftlaw1_AddrFormats.f
  repeat' first
      | (with_reducible exact ih0 _ _)
      | (with_reducible exact weftlaw1_begun.mono _)
      | (with_reducible exact weftlaw1_formats.mono _ _ _ _ _ _ _ _ _ _)
      | (with_reducible exact weftlaw1_holds.mono _ _ _ _ _ _ _ _ _ _)
      | (with_reducible exact LeO.refl _)
      | (with_reducible exact LeO.none _)
      | (with_reducible refine LeO.ite ?_ ?_)
      | (with_reducible refine LeO.bind ?_ (fun _ => ?_))
      | exact ih0 _ _
      | exact weftlaw1_begun.mono _
      | exact weftlaw1_formats.mono _ _ _ _ _ _ _ _ _ _
      | exact weftlaw1_holds.mono _ _ _ _ _ _ _ _ _ _
      | exact LeO.none _
      | refine LeO.ite ?_ ?_
      | refine LeO.bind ?_ (fun _ => ?_)
set_option maxHeartbeats 8000000 in
set_option maxRecDepth 100000 in
theorem weftlaw1_AddrFormats.calls (k : Nat) (A0 : Option Addr) (c0 : Nat) (l0 : List (S35)) (r : Bool) (w : World) (hr0 : Kd.C k35 w A0 l0.length l0) (hc0 : l0.length ≤ c0) (hP : Pow w) (hT : Cls w) (h : weftlaw1_AddrFormats.f k l0 = some r) :
    Calls Tryd.prog 4 #[.slice A0 l0.length c0] w fun e w' => e = .returned (.bool r) ∧ Below w.heap.size w w' := by
  have HT := Aside0.mk hT
  clear hT
  have HP := Aside0.mk hP
  clear hP
  have hu35 := Tryd.underlying35
  have HR0 := Aside0.mk hr0
  have HC0 := Aside0.mk hc0
  clear hr0 hc0
  have HB := Aside0.mk (Below.refl w.heap.size w)
  have H : ((weftlaw1_begun.f k).bind fun t216 => (if t216 = true then (weftlaw1_AddrFormats.l0 k l0 0) else (some false))) = some r := h
  clear h
  replace H := Option.bind_eq_some_iff.mp H
  obtain ⟨t216, A20, H⟩ := H
  replace H : (if t216 = true then (weftlaw1_AddrFormats.l0 k l0 0) else (some false)) = some r := H
  have A2 := Aside0.mk A20
  clear A20
  by_cases c3 : t216 = true
  · subst c3
    have H1 : (weftlaw1_AddrFormats.l0 k l0 0) = some r := by rw [if_pos rfl] at H; exact H
    clear H
    have H := H1
    clear H1
    have H' := Aside0.mk H
    clear H
    go_enter Tryd.func4, Tryd.ntmps4
    go_wp2_with (first | ((with_reducible refine gate_callee (f := 6) rfl ?_); refine goesL_ (some 5) rfl rfl Tryd.func6 (by kernel_rfl) rfl #[] rfl (by (try simp only [List.map_toArray, List.map_cons, List.map_nil]); first | done | rfl | (simp only [List.length_drop, List.length_take]; rfl)) ?_; (with_reducible refine (weftlaw1_begun.calls k  true _ A2.out).mono ?_); rintro e w' ⟨rfl, ⟨nd, rfl⟩⟩; refine ⟨_, rfl, ?_⟩))
    go_loopg [4] k (fun kq v4 w' => ∃ (x4_1 : Int), v4 = .int .i64 x4_1 ∧ Aside0 (weftlaw1_AddrFormats.l0 kq l0 x4_1 = some r) ∧ Aside0 (kq ≤ k) ∧ Aside0 (Below w.heap.size w w'))
    case atStart => exact ⟨(0), (by first | rfl | (simp; done) | (simp [*]; done)), H', ⟨Nat.le_refl _⟩, ⟨by repeat (first | (with_reducible first | exact HB.out | apply below_alloc | apply pw_below_drewN | apply below_drew1) | exact HB.out)⟩⟩
    case round =>
      clear H'
      try clear p2
      try clear c3
      obtain ⟨x4_1, rfl, HA, HK1, HB⟩ := hrel
      cases gk with
      | zero => exact absurd HA.out (by simp [weftlaw1_AddrFormats.l0])
      | succ k1 =>
        have H := HA.out
        clear HA
        simp only [weftlaw1_AddrFormats.l0] at H
        by_cases c4 : x4_1 < (l0.length : Int)
        · rw [if_pos c4] at H
          have c4b0 : decide (x4_1 < (l0.length : Int)) = true := decide_eq_true c4
          clear c4
          by_cases c5 : 0 ≤ x4_1
          · rw [if_pos c5] at H
            have c5b0 : decide (0 ≤ x4_1) = true := decide_eq_true c5
            clear c5
            replace H := Option.bind_eq_some_iff.mp H
            obtain ⟨t218, A60, H⟩ := H
            replace H : (if t218 = true then ((weftlaw1_holds.f k1 ((rd_T35 l0 x4_1).f0) ((rd_T35 l0 x4_1).f1.f0) ((rd_T35 l0 x4_1).f1.f1) ((rd_T35 l0 x4_1).f2.f0) ((rd_T35 l0 x4_1).f2.f1) ((rd_T35 l0 x4_1).f2.f2) ((rd_T35 l0 x4_1).f2.f3) ((rd_T35 l0 x4_1).f2.f4) ((rd_T35 l0 x4_1).f2.f5)).bind fun t220 => (if t220 = true then (weftlaw1_AddrFormats.l0 k1 l0 (wrap64 (x4_1 + 1))) else (some false))) else (some false)) = some r := H
            have A6 := Aside0.mk A60
            clear A60
            by_cases c7 : t218 = true
            · subst c7
              have H1 : ((weftlaw1_holds.f k1 ((rd_T35 l0 x4_1).f0) ((rd_T35 l0 x4_1).f1.f0) ((rd_T35 l0 x4_1).f1.f1) ((rd_T35 l0 x4_1).f2.f0) ((rd_T35 l0 x4_1).f2.f1) ((rd_T35 l0 x4_1).f2.f2) ((rd_T35 l0 x4_1).f2.f3) ((rd_T35 l0 x4_1).f2.f4) ((rd_T35 l0 x4_1).f2.f5)).bind fun t220 => (if t220 = true then (weftlaw1_AddrFormats.l0 k1 l0 (wrap64 (x4_1 + 1))) else (some false))) = some r := by rw [if_pos rfl] at H; exact H
              clear H
              have H := H1
              clear H1
              replace H := Option.bind_eq_some_iff.mp H
              obtain ⟨t220, A80, H⟩ := H
              replace H : (if t220 = true then (weftlaw1_AddrFormats.l0 k1 l0 (wrap64 (x4_1 + 1))) else (some false)) = some r := H
              have A8 := Aside0.mk A80
              clear A80
              by_cases c9 : t220 = true
              · subst c9
                have H1 : (weftlaw1_AddrFormats.l0 k1 l0 (wrap64 (x4_1 + 1))) = some r := by rw [if_pos rfl] at H; exact H
                clear H
                have H := H1
                clear H1
                have H' := Aside0.mk H
                clear H
                have p217 : 0 ≤ (x4_1 : Int) := of_decide_eq_true (by first | (with_reducible assumption) | assumption)
                have q217 : x4_1 < (l0.length : Int) := of_decide_eq_true (by first | (with_reducible assumption) | assumption)
                obtain ⟨ad217, e217, hx217_0, hx217_1, hx217_2, hx217_3, hx217_4, hx217_5, hx217_6, hx217_7, hx217_8⟩ := at_T35 HR0.out x4_1 p217 q217
                cases e217
                replace hx217_0 := (HB.out.cell (World.block_lt_of_cell? w _ hx217_0)).trans hx217_0
                replace hx217_1 := (HB.out.cell (World.block_lt_of_cell? w _ hx217_1)).trans hx217_1
                replace hx217_2 := (HB.out.cell (World.block_lt_of_cell? w _ hx217_2)).trans hx217_2
                replace hx217_3 := (HB.out.cell (World.block_lt_of_cell? w _ hx217_3)).trans hx217_3
                replace hx217_4 := (HB.out.cell (World.block_lt_of_cell? w _ hx217_4)).trans hx217_4
                replace hx217_5 := (HB.out.cell (World.block_lt_of_cell? w _ hx217_5)).trans hx217_5
                replace hx217_6 := (HB.out.cell (World.block_lt_of_cell? w _ hx217_6)).trans hx217_6
                replace hx217_7 := (HB.out.cell (World.block_lt_of_cell? w _ hx217_7)).trans hx217_7
                replace hx217_8 := (HB.out.cell (World.block_lt_of_cell? w _ hx217_8)).trans hx217_8
                replace p217 := eq_true p217
                replace q217 := eq_true q217
                go_wp2_with (first | ((with_reducible refine gate_callee (f := 8) rfl ?_); refine goesL_ (some 18) rfl rfl Tryd.func8 (by kernel_rfl) rfl #[.agg #[.int .u32 ((rd_T35 l0 x4_1).f0), .int .u32 ((rd_T35 l0 x4_1).f1.f0), .int .i64 ((rd_T35 l0 x4_1).f1.f1), .int .u8 ((rd_T35 l0 x4_1).f2.f0), .int .u8 ((rd_T35 l0 x4_1).f2.f1), .int .u8 ((rd_T35 l0 x4_1).f2.f2), .int .u8 ((rd_T35 l0 x4_1).f2.f3), .int .u8 ((rd_T35 l0 x4_1).f2.f4), .int .u8 ((rd_T35 l0 x4_1).f2.f5)]] rfl (by (try simp only [List.map_toArray, List.map_cons, List.map_nil]); first | done | rfl | (simp only [List.length_drop, List.length_take]; rfl)) ?_; (with_reducible refine (weftlaw1_formats.calls k1 ((rd_T35 l0 x4_1).f0) ((rd_T35 l0 x4_1).f1.f0) ((rd_T35 l0 x4_1).f1.f1) ((rd_T35 l0 x4_1).f2.f0) ((rd_T35 l0 x4_1).f2.f1) ((rd_T35 l0 x4_1).f2.f2) ((rd_T35 l0 x4_1).f2.f3) ((rd_T35 l0 x4_1).f2.f4) ((rd_T35 l0 x4_1).f2.f5) true _ (by first | exact HP.out | exact HP.out.on HB.out | exact HP.out.drewN _ | exact (HP.out.on HB.out).drewN _ | (refine HP.out.on ?_; repeat (first | (with_reducible first | exact HB.out | apply below_alloc | apply pw_below_drewN | apply below_drew1) | refine below_set ?_ (Aside0.out (by assumption)) | exact HB.out | exact Below.refl _ _))) A6.out).mono ?_); rintro e w10 ⟨rfl, hb⟩; refine ⟨_, rfl, ?_⟩; have n0_ := Aside0.mk (below_step (by repeat (first | (with_reducible first | exact HB.out | apply below_alloc | apply pw_below_drewN | apply below_drew1) | exact HB.out)) hb); clear HB; have HB := n0_; clear n0_; (try clear hb); (try clear hb2); (try clear hk); (try clear hi); have p219 : 0 ≤ (x4_1 : Int) := of_decide_eq_true (by first | (with_reducible assumption) | assumption); have q219 : x4_1 < (l0.length : Int) := of_decide_eq_true (by first | (with_reducible assumption) | assumption); obtain ⟨ad219, e219, hx219_0, hx219_1, hx219_2, hx219_3, hx219_4, hx219_5, hx219_6, hx219_7, hx219_8⟩ := at_T35 HR0.out x4_1 p219 q219; obtain rfl : ad217 = ad219 := (by injection e219); replace hx219_0 := (HB.out.cell (World.block_lt_of_cell? w _ hx219_0)).trans hx219_0; replace hx219_1 := (HB.out.cell (World.block_lt_of_cell? w _ hx219_1)).trans hx219_1; replace hx219_2 := (HB.out.cell (World.block_lt_of_cell? w _ hx219_2)).trans hx219_2; replace hx219_3 := (HB.out.cell (World.block_lt_of_cell? w _ hx219_3)).trans hx219_3; replace hx219_4 := (HB.out.cell (World.block_lt_of_cell? w _ hx219_4)).trans hx219_4; replace hx219_5 := (HB.out.cell (World.block_lt_of_cell? w _ hx219_5)).trans hx219_5; replace hx219_6 := (HB.out.cell (World.block_lt_of_cell? w _ hx219_6)).trans hx219_6; replace hx219_7 := (HB.out.cell (World.block_lt_of_cell? w _ hx219_7)).trans hx219_7; replace hx219_8 := (HB.out.cell (World.block_lt_of_cell? w _ hx219_8)).trans hx219_8; replace p219 := eq_true p219; replace q219 := eq_true q219) | ((with_reducible refine gate_callee (f := 9) rfl ?_); refine goesL_ (some 25) rfl rfl Tryd.func9 (by kernel_rfl) rfl #[.agg #[.int .u32 ((rd_T35 l0 x4_1).f0), .int .u32 ((rd_T35 l0 x4_1).f1.f0), .int .i64 ((rd_T35 l0 x4_1).f1.f1), .int .u8 ((rd_T35 l0 x4_1).f2.f0), .int .u8 ((rd_T35 l0 x4_1).f2.f1), .int .u8 ((rd_T35 l0 x4_1).f2.f2), .int .u8 ((rd_T35 l0 x4_1).f2.f3), .int .u8 ((rd_T35 l0 x4_1).f2.f4), .int .u8 ((rd_T35 l0 x4_1).f2.f5)]] rfl (by (try simp only [List.map_toArray, List.map_cons, List.map_nil]); first | done | rfl | (simp only [List.length_drop, List.length_take]; rfl)) ?_; (with_reducible refine (weftlaw1_holds.calls k1 ((rd_T35 l0 x4_1).f0) ((rd_T35 l0 x4_1).f1.f0) ((rd_T35 l0 x4_1).f1.f1) ((rd_T35 l0 x4_1).f2.f0) ((rd_T35 l0 x4_1).f2.f1) ((rd_T35 l0 x4_1).f2.f2) ((rd_T35 l0 x4_1).f2.f3) ((rd_T35 l0 x4_1).f2.f4) ((rd_T35 l0 x4_1).f2.f5) true _ (by first | exact HT.out | exact HT.out.on HB.out | exact HT.out.drewN _ | exact (HT.out.on HB.out).drewN _ | (refine HT.out.on ?_; repeat (first | (with_reducible first | exact HB.out | apply below_alloc | apply pw_below_drewN | apply below_drew1) | refine below_set ?_ (Aside0.out (by assumption)) | exact HB.out | exact Below.refl _ _))) A8.out).mono ?_); rintro e w11 ⟨rfl, hb⟩; refine ⟨_, rfl, ?_⟩; have n0_ := Aside0.mk (below_step (by repeat (first | (with_reducible first | exact HB.out | apply below_alloc | apply pw_below_drewN | apply below_drew1) | exact HB.out)) hb); clear HB; have HB := n0_; clear n0_; (try clear hb); (try clear hb2); (try clear hk); (try clear hi)))
                go_roundg k1
                case measure => have := HK1.out; omega
                case rel => exact ⟨(wrap64 (x4_1 + 1)), (by first | rfl | (simp; done) | (simp [*]; done)), H', ⟨by have := HK1.out; omega⟩, ⟨by repeat (first | (with_reducible first | exact HB.out | apply below_alloc | apply pw_below_drewN | apply below_drew1) | exact HB.out)⟩⟩
              · replace c9 := Bool.eq_false_iff.mpr c9
                subst c9
                have H1 : (some false) = some r := by rw [if_neg (show ¬ (false = true) by decide)] at H; exact H
                clear H
                have H := H1
                clear H1
                obtain rfl := Option.some.inj H
                have p217 : 0 ≤ (x4_1 : Int) := of_decide_eq_true (by first | (with_reducible assumption) | assumption)
                have q217 : x4_1 < (l0.length : Int) := of_decide_eq_true (by first | (with_reducible assumption) | assumption)
                obtain ⟨ad217, e217, hx217_0, hx217_1, hx217_2, hx217_3, hx217_4, hx217_5, hx217_6, hx217_7, hx217_8⟩ := at_T35 HR0.out x4_1 p217 q217
                cases e217
                replace hx217_0 := (HB.out.cell (World.block_lt_of_cell? w _ hx217_0)).trans hx217_0
                replace hx217_1 := (HB.out.cell (World.block_lt_of_cell? w _ hx217_1)).trans hx217_1
                replace hx217_2 := (HB.out.cell (World.block_lt_of_cell? w _ hx217_2)).trans hx217_2
                replace hx217_3 := (HB.out.cell (World.block_lt_of_cell? w _ hx217_3)).trans hx217_3
                replace hx217_4 := (HB.out.cell (World.block_lt_of_cell? w _ hx217_4)).trans hx217_4
                replace hx217_5 := (HB.out.cell (World.block_lt_of_cell? w _ hx217_5)).trans hx217_5
                replace hx217_6 := (HB.out.cell (World.block_lt_of_cell? w _ hx217_6)).trans hx217_6
                replace hx217_7 := (HB.out.cell (World.block_lt_of_cell? w _ hx217_7)).trans hx217_7
                replace hx217_8 := (HB.out.cell (World.block_lt_of_cell? w _ hx217_8)).trans hx217_8
                replace p217 := eq_true p217
                replace q217 := eq_true q217
                go_wp2_with (first | ((with_reducible refine gate_callee (f := 8) rfl ?_); refine goesL_ (some 18) rfl rfl Tryd.func8 (by kernel_rfl) rfl #[.agg #[.int .u32 ((rd_T35 l0 x4_1).f0), .int .u32 ((rd_T35 l0 x4_1).f1.f0), .int .i64 ((rd_T35 l0 x4_1).f1.f1), .int .u8 ((rd_T35 l0 x4_1).f2.f0), .int .u8 ((rd_T35 l0 x4_1).f2.f1), .int .u8 ((rd_T35 l0 x4_1).f2.f2), .int .u8 ((rd_T35 l0 x4_1).f2.f3), .int .u8 ((rd_T35 l0 x4_1).f2.f4), .int .u8 ((rd_T35 l0 x4_1).f2.f5)]] rfl (by (try simp only [List.map_toArray, List.map_cons, List.map_nil]); first | done | rfl | (simp only [List.length_drop, List.length_take]; rfl)) ?_; (with_reducible refine (weftlaw1_formats.calls k1 ((rd_T35 l0 x4_1).f0) ((rd_T35 l0 x4_1).f1.f0) ((rd_T35 l0 x4_1).f1.f1) ((rd_T35 l0 x4_1).f2.f0) ((rd_T35 l0 x4_1).f2.f1) ((rd_T35 l0 x4_1).f2.f2) ((rd_T35 l0 x4_1).f2.f3) ((rd_T35 l0 x4_1).f2.f4) ((rd_T35 l0 x4_1).f2.f5) true _ (by first | exact HP.out | exact HP.out.on HB.out | exact HP.out.drewN _ | exact (HP.out.on HB.out).drewN _ | (refine HP.out.on ?_; repeat (first | (with_reducible first | exact HB.out | apply below_alloc | apply pw_below_drewN | apply below_drew1) | refine below_set ?_ (Aside0.out (by assumption)) | exact HB.out | exact Below.refl _ _))) A6.out).mono ?_); rintro e w12 ⟨rfl, hb⟩; refine ⟨_, rfl, ?_⟩; have n0_ := Aside0.mk (below_step (by repeat (first | (with_reducible first | exact HB.out | apply below_alloc | apply pw_below_drewN | apply below_drew1) | exact HB.out)) hb); clear HB; have HB := n0_; clear n0_; (try clear hb); (try clear hb2); (try clear hk); (try clear hi); have p219 : 0 ≤ (x4_1 : Int) := of_decide_eq_true (by first | (with_reducible assumption) | assumption); have q219 : x4_1 < (l0.length : Int) := of_decide_eq_true (by first | (with_reducible assumption) | assumption); obtain ⟨ad219, e219, hx219_0, hx219_1, hx219_2, hx219_3, hx219_4, hx219_5, hx219_6, hx219_7, hx219_8⟩ := at_T35 HR0.out x4_1 p219 q219; obtain rfl : ad217 = ad219 := (by injection e219); replace hx219_0 := (HB.out.cell (World.block_lt_of_cell? w _ hx219_0)).trans hx219_0; replace hx219_1 := (HB.out.cell (World.block_lt_of_cell? w _ hx219_1)).trans hx219_1; replace hx219_2 := (HB.out.cell (World.block_lt_of_cell? w _ hx219_2)).trans hx219_2; replace hx219_3 := (HB.out.cell (World.block_lt_of_cell? w _ hx219_3)).trans hx219_3; replace hx219_4 := (HB.out.cell (World.block_lt_of_cell? w _ hx219_4)).trans hx219_4; replace hx219_5 := (HB.out.cell (World.block_lt_of_cell? w _ hx219_5)).trans hx219_5; replace hx219_6 := (HB.out.cell (World.block_lt_of_cell? w _ hx219_6)).trans hx219_6; replace hx219_7 := (HB.out.cell (World.block_lt_of_cell? w _ hx219_7)).trans hx219_7; replace hx219_8 := (HB.out.cell (World.block_lt_of_cell? w _ hx219_8)).trans hx219_8; replace p219 := eq_true p219; replace q219 := eq_true q219) | ((with_reducible refine gate_callee (f := 9) rfl ?_); refine goesL_ (some 25) rfl rfl Tryd.func9 (by kernel_rfl) rfl #[.agg #[.int .u32 ((rd_T35 l0 x4_1).f0), .int .u32 ((rd_T35 l0 x4_1).f1.f0), .int .i64 ((rd_T35 l0 x4_1).f1.f1), .int .u8 ((rd_T35 l0 x4_1).f2.f0), .int .u8 ((rd_T35 l0 x4_1).f2.f1), .int .u8 ((rd_T35 l0 x4_1).f2.f2), .int .u8 ((rd_T35 l0 x4_1).f2.f3), .int .u8 ((rd_T35 l0 x4_1).f2.f4), .int .u8 ((rd_T35 l0 x4_1).f2.f5)]] rfl (by (try simp only [List.map_toArray, List.map_cons, List.map_nil]); first | done | rfl | (simp only [List.length_drop, List.length_take]; rfl)) ?_; (with_reducible refine (weftlaw1_holds.calls k1 ((rd_T35 l0 x4_1).f0) ((rd_T35 l0 x4_1).f1.f0) ((rd_T35 l0 x4_1).f1.f1) ((rd_T35 l0 x4_1).f2.f0) ((rd_T35 l0 x4_1).f2.f1) ((rd_T35 l0 x4_1).f2.f2) ((rd_T35 l0 x4_1).f2.f3) ((rd_T35 l0 x4_1).f2.f4) ((rd_T35 l0 x4_1).f2.f5) false _ (by first | exact HT.out | exact HT.out.on HB.out | exact HT.out.drewN _ | exact (HT.out.on HB.out).drewN _ | (refine HT.out.on ?_; repeat (first | (with_reducible first | exact HB.out | apply below_alloc | apply pw_below_drewN | apply below_drew1) | refine below_set ?_ (Aside0.out (by assumption)) | exact HB.out | exact Below.refl _ _))) A8.out).mono ?_); rintro e w13 ⟨rfl, hb⟩; refine ⟨_, rfl, ?_⟩; have n0_ := Aside0.mk (below_step (by repeat (first | (with_reducible first | exact HB.out | apply below_alloc | apply pw_below_drewN | apply below_drew1) | exact HB.out)) hb); clear HB; have HB := n0_; clear n0_; (try clear hb); (try clear hb2); (try clear hk); (try clear hi)))
                go_ret
                exact ⟨by first | rfl | (simp [errW_none, errW_some] <;> rfl) | (simp [*, errW_none, errW_some] <;> rfl), by repeat (first | (with_reducible first | exact HB.out | apply below_alloc | apply pw_below_drewN | apply below_drew1) | exact HB.out)⟩
            · replace c7 := Bool.eq_false_iff.mpr c7
              subst c7
              have H1 : (some false) = some r := by rw [if_neg (show ¬ (false = true) by decide)] at H; exact H
              clear H
              have H := H1
              clear H1
              obtain rfl := Option.some.inj H
              have p217 : 0 ≤ (x4_1 : Int) := of_decide_eq_true (by first | (with_reducible assumption) | assumption)
              have q217 : x4_1 < (l0.length : Int) := of_decide_eq_true (by first | (with_reducible assumption) | assumption)
              obtain ⟨ad217, e217, hx217_0, hx217_1, hx217_2, hx217_3, hx217_4, hx217_5, hx217_6, hx217_7, hx217_8⟩ := at_T35 HR0.out x4_1 p217 q217
              cases e217
              replace hx217_0 := (HB.out.cell (World.block_lt_of_cell? w _ hx217_0)).trans hx217_0
              replace hx217_1 := (HB.out.cell (World.block_lt_of_cell? w _ hx217_1)).trans hx217_1
              replace hx217_2 := (HB.out.cell (World.block_lt_of_cell? w _ hx217_2)).trans hx217_2
              replace hx217_3 := (HB.out.cell (World.block_lt_of_cell? w _ hx217_3)).trans hx217_3
              replace hx217_4 := (HB.out.cell (World.block_lt_of_cell? w _ hx217_4)).trans hx217_4
              replace hx217_5 := (HB.out.cell (World.block_lt_of_cell? w _ hx217_5)).trans hx217_5
              replace hx217_6 := (HB.out.cell (World.block_lt_of_cell? w _ hx217_6)).trans hx217_6
              replace hx217_7 := (HB.out.cell (World.block_lt_of_cell? w _ hx217_7)).trans hx217_7
              replace hx217_8 := (HB.out.cell (World.block_lt_of_cell? w _ hx217_8)).trans hx217_8
              replace p217 := eq_true p217
              replace q217 := eq_true q217
              go_wp2_with (first | ((with_reducible refine gate_callee (f := 8) rfl ?_); refine goesL_ (some 18) rfl rfl Tryd.func8 (by kernel_rfl) rfl #[.agg #[.int .u32 ((rd_T35 l0 x4_1).f0), .int .u32 ((rd_T35 l0 x4_1).f1.f0), .int .i64 ((rd_T35 l0 x4_1).f1.f1), .int .u8 ((rd_T35 l0 x4_1).f2.f0), .int .u8 ((rd_T35 l0 x4_1).f2.f1), .int .u8 ((rd_T35 l0 x4_1).f2.f2), .int .u8 ((rd_T35 l0 x4_1).f2.f3), .int .u8 ((rd_T35 l0 x4_1).f2.f4), .int .u8 ((rd_T35 l0 x4_1).f2.f5)]] rfl (by (try simp only [List.map_toArray, List.map_cons, List.map_nil]); first | done | rfl | (simp only [List.length_drop, List.length_take]; rfl)) ?_; (with_reducible refine (weftlaw1_formats.calls k1 ((rd_T35 l0 x4_1).f0) ((rd_T35 l0 x4_1).f1.f0) ((rd_T35 l0 x4_1).f1.f1) ((rd_T35 l0 x4_1).f2.f0) ((rd_T35 l0 x4_1).f2.f1) ((rd_T35 l0 x4_1).f2.f2) ((rd_T35 l0 x4_1).f2.f3) ((rd_T35 l0 x4_1).f2.f4) ((rd_T35 l0 x4_1).f2.f5) false _ (by first | exact HP.out | exact HP.out.on HB.out | exact HP.out.drewN _ | exact (HP.out.on HB.out).drewN _ | (refine HP.out.on ?_; repeat (first | (with_reducible first | exact HB.out | apply below_alloc | apply pw_below_drewN | apply below_drew1) | refine below_set ?_ (Aside0.out (by assumption)) | exact HB.out | exact Below.refl _ _))) A6.out).mono ?_); rintro e w14 ⟨rfl, hb⟩; refine ⟨_, rfl, ?_⟩; have n0_ := Aside0.mk (below_step (by repeat (first | (with_reducible first | exact HB.out | apply below_alloc | apply pw_below_drewN | apply below_drew1) | exact HB.out)) hb); clear HB; have HB := n0_; clear n0_; (try clear hb); (try clear hb2); (try clear hk); (try clear hi)))
              go_ret
              exact ⟨by first | rfl | (simp [errW_none, errW_some] <;> rfl) | (simp [*, errW_none, errW_some] <;> rfl), by repeat (first | (with_reducible first | exact HB.out | apply below_alloc | apply pw_below_drewN | apply below_drew1) | exact HB.out)⟩
          · rw [if_neg c5] at H
            exact absurd H (by simp)
        · rw [if_neg c4] at H
          have c4b0 : decide (x4_1 < (l0.length : Int)) = false := decide_eq_false c4
          clear c4
          obtain rfl := Option.some.inj H
          go_wp2
          go_ret
          exact ⟨by first | rfl | (simp [errW_none, errW_some] <;> rfl) | (simp [*, errW_none, errW_some] <;> rfl), by repeat (first | (with_reducible first | exact HB.out | apply below_alloc | apply pw_below_drewN | apply below_drew1) | exact HB.out)⟩
  · replace c3 := Bool.eq_false_iff.mpr c3
    subst c3
    have H1 : (some false) = some r := by rw [if_neg (show ¬ (false = true) by decide)] at H; exact H
    clear H
    have H := H1
    clear H1
    obtain rfl := Option.some.inj H
    go_enter Tryd.func4, Tryd.ntmps4
    go_wp2_with (first | ((with_reducible refine gate_callee (f := 6) rfl ?_); refine goesL_ (some 5) rfl rfl Tryd.func6 (by kernel_rfl) rfl #[] rfl (by (try simp only [List.map_toArray, List.map_cons, List.map_nil]); first | done | rfl | (simp only [List.length_drop, List.length_take]; rfl)) ?_; (with_reducible refine (weftlaw1_begun.calls k  false _ A2.out).mono ?_); rintro e w' ⟨rfl, ⟨nd, rfl⟩⟩; refine ⟨_, rfl, ?_⟩))
    go_ret
    exact ⟨by first | rfl | (simp [errW_none, errW_some] <;> rfl) | (simp [*, errW_none, errW_some] <;> rfl), by repeat (first | (with_reducible first | exact HB.out | apply below_alloc | apply pw_below_drewN | apply below_drew1) | exact HB.out)⟩

end Go.Proofs.YtncpcjphljfcpaaDoor.PPar
