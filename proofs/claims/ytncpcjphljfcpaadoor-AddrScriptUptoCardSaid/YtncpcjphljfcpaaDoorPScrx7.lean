-- written by xp.sh, a program of this seat's session
import Derived.Test.YtncpcjphljfcpaaDoorPScrx0
import Derived.Test.YtncpcjphljfcpaaDoorPScrx3
import Derived.Test.YtncpcjphljfcpaaDoorPScrx4
import Derived.Test.YtncpcjphljfcpaaDoorPScrx5
import Derived.Test.YtncpcjphljfcpaaDoorPScrx6
namespace Go.Proofs.YtncpcjphljfcpaaDoor.PScr
open Go.RowKit Go.Proofs.YtncpcjphljfcpaaDoorW.PrintWords Go.Proofs.YtncpcjphljfcpaaDoorW.PrintLast Go.Proofs.YtncpcjphljfcpaaDoorW.PrintMore
attribute [local go_sem] max2_int min2_int max_two min_two max_three min_three max_four min_four   -- for this text's walks alone
set_option linter.unusedVariables false
set_option linter.unusedSimpArgs false

/-! ### weftref1_Format: function 19 -/
def weftref1_Format.l0 : Nat → Int → ByteArray → Int → Option (ByteArray)
  | 0, _, _, _ => none
  | k + 1, x3, x4, x5 => if x5 < 3 then ((strconv_Itoa.f (Int.tmod (wrap64 (Int.tdiv x3 256)) 256)).bind fun t165 => (if t165.size + 1 ≤ 9223372036854775807 then (if (t165 ++ (⟨#[46]⟩ : ByteArray)).size + x4.size ≤ 9223372036854775807 then (weftref1_Format.l0 k (wrap64 (Int.tdiv x3 256)) ((t165 ++ (⟨#[46]⟩ : ByteArray)) ++ x4) (wrap64 (x5 + 1))) else (none)) else (none))) else (some x4)
def weftref1_Format.f (k : Nat) (a0 : Int) : Option (ByteArray) := (strconv_Itoa.f (Int.tmod (wrap64 (a0)) 256)).bind fun t164 => (weftref1_Format.l0 k (wrap64 (a0)) t164 0)
theorem weftref1_Format.mono_l : ∀ k, (∀ y0 y1 y2, LeO (weftref1_Format.l0 k y0 y1 y2) (weftref1_Format.l0 (k + 1) y0 y1 y2))
  | 0 => fun _ _ _ r h => by simp [weftref1_Format.l0] at h
  | k + 1 => by
    have ih0 := weftref1_Format.mono_l k
    · intro y0 y1 y2
      unfold weftref1_Format.l0
      repeat' first
      | (with_reducible exact ih0 _ _ _)
      | (with_reducible exact LeO.refl _)
      | (with_reducible exact LeO.none _)
      | (with_reducible refine LeO.ite ?_ ?_)
      | (with_reducible refine LeO.bind ?_ (fun _ => ?_))
      | exact ih0 _ _ _
      | exact LeO.none _
      | refine LeO.ite ?_ ?_
      | refine LeO.bind ?_ (fun _ => ?_)
theorem weftref1_Format.mono : ∀ a0 k, LeO (weftref1_Format.f k a0) (weftref1_Format.f (k + 1) a0) := by
  intro a0 k
  have ih0 := weftref1_Format.mono_l k
  unfold weftref1_Format.f
  repeat' first
      | (with_reducible exact ih0 _ _ _)
      | (with_reducible exact LeO.refl _)
      | (with_reducible exact LeO.none _)
      | (with_reducible refine LeO.ite ?_ ?_)
      | (with_reducible refine LeO.bind ?_ (fun _ => ?_))
      | exact ih0 _ _ _
      | exact LeO.none _
      | refine LeO.ite ?_ ?_
      | refine LeO.bind ?_ (fun _ => ?_)
set_option maxHeartbeats 8000000 in
set_option maxRecDepth 100000 in
theorem weftref1_Format.calls (k : Nat) (a0 : Int) (r : ByteArray) (w : World) (hP : Pow w) (h : weftref1_Format.f k a0 = some r) :
    Calls Tryd.prog 19 #[.int .u32 a0] w fun e w' => e = .returned (.string r) ∧ Below w.heap.size w w' := by
  have HP := Aside0.mk hP
  clear hP
  have HB := Aside0.mk (Below.refl w.heap.size w)
  have H : ((strconv_Itoa.f (Int.tmod (wrap64 (a0)) 256)).bind fun t164 => (weftref1_Format.l0 k (wrap64 (a0)) t164 0)) = some r := h
  clear h
  replace H := Option.bind_eq_some_iff.mp H
  obtain ⟨t164, A20, H⟩ := H
  replace H : (weftref1_Format.l0 k (wrap64 (a0)) t164 0) = some r := H
  have A2 := Aside0.mk A20
  clear A20
  have H' := Aside0.mk H
  clear H
  go_enter Tryd.func19, Tryd.ntmps19
  go_wp2_with (first | ((with_reducible refine gate_callee (f := 44) rfl ?_); refine goesL_ (some 10) rfl rfl Tryd.func44 (by kernel_rfl) rfl #[.int .i64 (Int.tmod (wrap64 (a0)) 256)] rfl (by (try simp only [List.map_toArray, List.map_cons, List.map_nil]); first | done | rfl | (simp only [List.length_drop, List.length_take]; rfl)) ?_; (with_reducible refine (strconv_Itoa.calls (Int.tmod (wrap64 (a0)) 256) t164 _ (by first | exact HP.out | exact HP.out.on HB.out | exact HP.out.drewN _ | exact (HP.out.on HB.out).drewN _ | (refine HP.out.on ?_; repeat (first | (with_reducible first | exact HB.out | apply below_alloc | apply pw_below_drewN | apply below_drew1) | refine below_set ?_ (Aside0.out (by assumption)) | exact HB.out | exact Below.refl _ _))) A2.out).mono ?_); rintro e w3 ⟨rfl, hb⟩; refine ⟨_, rfl, ?_⟩; have n0_ := Aside0.mk (below_step (by repeat (first | (with_reducible first | exact HB.out | apply below_alloc | apply pw_below_drewN | apply below_drew1) | exact HB.out)) hb); clear HB; have HB := n0_; clear n0_; (try clear hb); (try clear hb2); (try clear hk); (try clear hi)))
  go_loopg [3, 4, 5] k (fun kq v3 v4 v5 w' => ∃ (x3_1 : Int) (x4_1 : ByteArray) (x5_1 : Int), v3 = .int .i64 x3_1 ∧ v4 = .string x4_1 ∧ v5 = .int .i64 x5_1 ∧ Aside0 (weftref1_Format.l0 kq x3_1 x4_1 x5_1 = some r) ∧ Aside0 (kq ≤ k) ∧ Aside0 (Below w.heap.size w w'))
  case atStart => exact ⟨(wrap64 (a0)), (t164), (0), (by first | rfl | (simp; done) | (simp [*]; done)), (by first | rfl | (simp; done) | (simp [*]; done)), (by first | rfl | (simp; done) | (simp [*]; done)), H', ⟨Nat.le_refl _⟩, ⟨by repeat (first | (with_reducible first | exact HB.out | apply below_alloc | apply pw_below_drewN | apply below_drew1) | exact HB.out)⟩⟩
  case round =>
    clear H'
    try clear c1
    try clear p2
    obtain ⟨x3_1, x4_1, x5_1, rfl, rfl, rfl, HA, HK1, HB⟩ := hrel
    cases gk with
    | zero => exact absurd HA.out (by simp [weftref1_Format.l0])
    | succ k1 =>
      have H := HA.out
      clear HA
      simp only [weftref1_Format.l0] at H
      by_cases c4 : x5_1 < 3
      · rw [if_pos c4] at H
        have c4b0 : decide (x5_1 < 3) = true := decide_eq_true c4
        clear c4
        replace H := Option.bind_eq_some_iff.mp H
        obtain ⟨t165, A50, H⟩ := H
        replace H : (if t165.size + 1 ≤ 9223372036854775807 then (if (t165 ++ (⟨#[46]⟩ : ByteArray)).size + x4_1.size ≤ 9223372036854775807 then (weftref1_Format.l0 k1 (wrap64 (Int.tdiv x3_1 256)) ((t165 ++ (⟨#[46]⟩ : ByteArray)) ++ x4_1) (wrap64 (x5_1 + 1))) else (none)) else (none)) = some r := H
        have A5 := Aside0.mk A50
        clear A50
        by_cases c6 : t165.size + 1 ≤ 9223372036854775807
        · rw [if_pos c6] at H
          have c6b0 := eq_true c6
          have c6b1 : decide (t165.size + 1 ≤ 9223372036854775807) = true := decide_eq_true c6
          try have c6b2 : (9223372036854775807 < t165.size + 1) = False := eq_false (Nat.not_lt.2 c6)
          by_cases c7 : (t165 ++ (⟨#[46]⟩ : ByteArray)).size + x4_1.size ≤ 9223372036854775807
          · rw [if_pos c7] at H
            have c7b0 := eq_true c7
            have c7b1 : decide ((t165 ++ (⟨#[46]⟩ : ByteArray)).size + x4_1.size ≤ 9223372036854775807) = true := decide_eq_true c7
            try have c7b2 : (9223372036854775807 < (t165 ++ (⟨#[46]⟩ : ByteArray)).size + x4_1.size) = False := eq_false (Nat.not_lt.2 c7)
            have c7y := c7
            (try simp [go_sem] at c7y)
            (try have c7z : _ = False := eq_false (Nat.not_lt.2 c7y))
            have H' := Aside0.mk H
            clear H
            go_wp2_with (first | ((with_reducible refine gate_callee (f := 44) rfl ?_); refine goesL_ (some 19) rfl rfl Tryd.func44 (by kernel_rfl) rfl #[.int .i64 (Int.tmod (wrap64 (Int.tdiv x3_1 256)) 256)] rfl (by (try simp only [List.map_toArray, List.map_cons, List.map_nil]); first | done | rfl | (simp only [List.length_drop, List.length_take]; rfl)) ?_; (with_reducible refine (strconv_Itoa.calls (Int.tmod (wrap64 (Int.tdiv x3_1 256)) 256) t165 _ (by first | exact HP.out | exact HP.out.on HB.out | exact HP.out.drewN _ | exact (HP.out.on HB.out).drewN _ | (refine HP.out.on ?_; repeat (first | (with_reducible first | exact HB.out | apply below_alloc | apply pw_below_drewN | apply below_drew1) | refine below_set ?_ (Aside0.out (by assumption)) | exact HB.out | exact Below.refl _ _))) A5.out).mono ?_); rintro e w8 ⟨rfl, hb⟩; refine ⟨_, rfl, ?_⟩; have n0_ := Aside0.mk (below_step (by repeat (first | (with_reducible first | exact HB.out | apply below_alloc | apply pw_below_drewN | apply below_drew1) | exact HB.out)) hb); clear HB; have HB := n0_; clear n0_; (try clear hb); (try clear hb2); (try clear hk); (try clear hi)))
            go_roundg k1
            case measure => have := HK1.out; omega
            case rel => exact ⟨(wrap64 (Int.tdiv x3_1 256)), ((t165 ++ (⟨#[46]⟩ : ByteArray)) ++ x4_1), (wrap64 (x5_1 + 1)), (by first | rfl | (simp; done) | (simp [*]; done)), (by first | rfl | (simp; done) | (simp [*]; done)), (by first | rfl | (simp; done) | (simp [*]; done)), H', ⟨by have := HK1.out; omega⟩, ⟨by repeat (first | (with_reducible first | exact HB.out | apply below_alloc | apply pw_below_drewN | apply below_drew1) | exact HB.out)⟩⟩
          · rw [if_neg c7] at H
            exact absurd H (by simp)
        · rw [if_neg c6] at H
          exact absurd H (by simp)
      · rw [if_neg c4] at H
        have c4b0 : decide (x5_1 < 3) = false := decide_eq_false c4
        clear c4
        obtain rfl := Option.some.inj H
        go_wp2
        go_ret
        exact ⟨by first | rfl | (simp [errW_none, errW_some] <;> rfl) | (simp [*, errW_none, errW_some] <;> rfl), by repeat (first | (with_reducible first | exact HB.out | apply below_alloc | apply pw_below_drewN | apply below_drew1) | exact HB.out)⟩

/-! ### addr_FormatPrefix: function 20 -/
def addr_FormatPrefix.f (k : Nat) (a0_0 : Int) (a0_1 : Int) : Option (ByteArray × Int) := (addr_fault.f k a0_0 a0_1).bind fun t167 => (if t167 = 0 then ((addr_Format.f k a0_0).bind fun t168 => (if t168.size + 1 ≤ 9223372036854775807 then ((addr_digits.f k a0_1).bind fun t169 => (if (t168 ++ (⟨#[47]⟩ : ByteArray)).size + t169.size ≤ 9223372036854775807 then (some ((t168 ++ (⟨#[47]⟩ : ByteArray)) ++ t169, 0)) else (none))) else (none))) else (some ((⟨#[]⟩ : ByteArray), t167)))
theorem addr_FormatPrefix.mono : ∀ a0 a1 k, LeO (addr_FormatPrefix.f k a0 a1) (addr_FormatPrefix.f (k + 1) a0 a1) := by
  intro a0 a1 k
  unfold addr_FormatPrefix.f
  repeat' first
      | (with_reducible exact addr_Format.mono _ _)
      | (with_reducible exact addr_digits.mono _ _)
      | (with_reducible exact addr_fault.mono _ _ _)
      | (with_reducible exact LeO.refl _)
      | (with_reducible exact LeO.none _)
      | (with_reducible refine LeO.ite ?_ ?_)
      | (with_reducible refine LeO.bind ?_ (fun _ => ?_))
      | exact addr_Format.mono _ _
      | exact addr_digits.mono _ _
      | exact addr_fault.mono _ _ _
      | exact LeO.none _
      | refine LeO.ite ?_ ?_
      | refine LeO.bind ?_ (fun _ => ?_)
def addr_FormatPrefix.T4 : Bool × List (List Nat × List Nat) := (true, [([], []), ([0], [0]), ([1], [1]), ([2], [2]), ([], []), ([4], [4]), ([5, 2], [5]), ([3, 6], [3, 6]), ([7, 6, 0, 1, 2, 3, 4, 5, 6, 7], [7]), ([8, 0, 1, 2, 3, 4, 5, 6, 7, 8], [])])
def addr_FormatPrefix.B4 : List Nat := [0, 1, 3, 7, 0, 16, 55, 127, 255, 511]
theorem addr_FormatPrefix.tab4 : rtab .any (opsOf Tryd.f20 4) = addr_FormatPrefix.T4 := by kernel_rfl
theorem addr_FormatPrefix.bits4 : waitsOk addr_FormatPrefix.T4.2 addr_FormatPrefix.B4 = true := by kernel_rfl
set_option maxHeartbeats 8000000 in
set_option maxRecDepth 100000 in
theorem addr_FormatPrefix.calls (k : Nat) (a0_0 : Int) (a0_1 : Int) (r1 : ByteArray) (r2 : Int) (w : World) (h : addr_FormatPrefix.f k a0_0 a0_1 = some (r1, r2)) :
    Calls Tryd.prog 20 #[.agg #[.int .u32 a0_0, .int .i64 a0_1]] w fun e w' => e = .returned (.tuple #[.string r1, .int .i64 r2]) ∧ Below w.heap.size w w' := by
  have hu31 := Tryd.underlying31
  have HB := Aside0.mk (Below.refl w.heap.size w)
  have H : ((addr_fault.f k a0_0 a0_1).bind fun t167 => (if t167 = 0 then ((addr_Format.f k a0_0).bind fun t168 => (if t168.size + 1 ≤ 9223372036854775807 then ((addr_digits.f k a0_1).bind fun t169 => (if (t168 ++ (⟨#[47]⟩ : ByteArray)).size + t169.size ≤ 9223372036854775807 then (some ((t168 ++ (⟨#[47]⟩ : ByteArray)) ++ t169, 0)) else (none))) else (none))) else (some ((⟨#[]⟩ : ByteArray), t167)))) = some (r1, r2) := h
  clear h
  replace H := Option.bind_eq_some_iff.mp H
  obtain ⟨t167, A20, H⟩ := H
  replace H : (if t167 = 0 then ((addr_Format.f k a0_0).bind fun t168 => (if t168.size + 1 ≤ 9223372036854775807 then ((addr_digits.f k a0_1).bind fun t169 => (if (t168 ++ (⟨#[47]⟩ : ByteArray)).size + t169.size ≤ 9223372036854775807 then (some ((t168 ++ (⟨#[47]⟩ : ByteArray)) ++ t169, 0)) else (none))) else (none))) else (some ((⟨#[]⟩ : ByteArray), t167))) = some (r1, r2) := H
  have A2 := Aside0.mk A20
  clear A20
  by_cases c3 : t167 = 0
  · rw [if_pos c3] at H
    have c3b0 : (t167 == 0) = true := beq_iff_eq.mpr c3
    have c3b1 : (t167 != 0) = false := bne_eq_false_iff_eq.mpr c3
    clear c3
    replace H := Option.bind_eq_some_iff.mp H
    obtain ⟨t168, A40, H⟩ := H
    replace H : (if t168.size + 1 ≤ 9223372036854775807 then ((addr_digits.f k a0_1).bind fun t169 => (if (t168 ++ (⟨#[47]⟩ : ByteArray)).size + t169.size ≤ 9223372036854775807 then (some ((t168 ++ (⟨#[47]⟩ : ByteArray)) ++ t169, 0)) else (none))) else (none)) = some (r1, r2) := H
    have A4 := Aside0.mk A40
    clear A40
    by_cases c5 : t168.size + 1 ≤ 9223372036854775807
    · rw [if_pos c5] at H
      have c5b0 := eq_true c5
      have c5b1 : decide (t168.size + 1 ≤ 9223372036854775807) = true := decide_eq_true c5
      try have c5b2 : (9223372036854775807 < t168.size + 1) = False := eq_false (Nat.not_lt.2 c5)
      replace H := Option.bind_eq_some_iff.mp H
      obtain ⟨t169, A60, H⟩ := H
      replace H : (if (t168 ++ (⟨#[47]⟩ : ByteArray)).size + t169.size ≤ 9223372036854775807 then (some ((t168 ++ (⟨#[47]⟩ : ByteArray)) ++ t169, 0)) else (none)) = some (r1, r2) := H
      have A6 := Aside0.mk A60
      clear A60
      by_cases c7 : (t168 ++ (⟨#[47]⟩ : ByteArray)).size + t169.size ≤ 9223372036854775807
      · rw [if_pos c7] at H
        have c7b0 := eq_true c7
        have c7b1 : decide ((t168 ++ (⟨#[47]⟩ : ByteArray)).size + t169.size ≤ 9223372036854775807) = true := decide_eq_true c7
        try have c7b2 : (9223372036854775807 < (t168 ++ (⟨#[47]⟩ : ByteArray)).size + t169.size) = False := eq_false (Nat.not_lt.2 c7)
        have c7y := c7
        (try simp [go_sem] at c7y)
        (try have c7z : _ = False := eq_false (Nat.not_lt.2 c7y))
        simp only [Option.some.injEq, Prod.mk.injEq] at H
        obtain ⟨rfl, rfl⟩ := H
        go_enter Tryd.func20, Tryd.ntmps20
        try go_wp2_with (first | ((with_reducible refine gate_dst (N := 1) rfl ?_); refine box_event ?hg (N := 1) ?hd (cs := #[.int .u32 a0_0, .int .i64 a0_1]) (t := 31) ?hr ?_; (case hd => rfl); (case hg => rfl); (case hr => first | (go_simp; done) | (go_simp; rfl)); intro gb166 hg w8 hbox hb; have n0_ := Aside0.mk (below_step (by repeat (first | (with_reducible first | exact HB.out | apply below_alloc | apply pw_below_drewN | apply below_drew1) | exact HB.out)) hb); have n1_ := Aside0.mk (hbox); have n2_ := Aside0.mk ((by rw [hg]; exact (below_size (by repeat (first | (with_reducible first | exact HB.out | apply below_alloc | apply pw_below_drewN | apply below_drew1) | exact HB.out))) : w.heap.size ≤ gb166)); have n3_ := Aside0.mk ((by rw [hg]; exact (below_size (by repeat (first | (with_reducible first | exact HB.out | apply below_alloc | apply pw_below_drewN | apply below_drew1) | exact HB.out))) : w.heap.size ≤ gb166)); clear HB; have HB := n0_; have BK166 := n1_; have GW166 := n2_; have GE166 := n3_; clear n0_ n1_ n2_ n3_; clear hb hbox hg; have hcz9_0 : w8.cell? ⟨gb166, 0, none⟩ = some (.int .u32 a0_0) := (blk_cell BK166.out 0).trans rfl; have hcz9_1 : w8.cell? ⟨gb166, 1, none⟩ = some (.int .i64 a0_1) := (blk_cell BK166.out 1).trans rfl; have hfz9_0 := blk_frozen BK166.out 0; have hfz9_1 := blk_frozen BK166.out 1) | ((with_reducible refine gate_callee (f := 45) rfl ?_); refine goesL_ (some 6) rfl rfl Tryd.func45 (by kernel_rfl) rfl #[.agg #[.int .u32 a0_0, .int .i64 a0_1]] rfl (by (try simp only [List.map_toArray, List.map_cons, List.map_nil]); first | done | rfl | (simp only [List.length_drop, List.length_take]; rfl)) ?_; (with_reducible refine (addr_fault.calls k a0_0 a0_1 t167 _ A2.out).mono ?_); rintro e w10 ⟨rfl, hb⟩; refine ⟨_, rfl, ?_⟩; have n0_ := Aside0.mk (blk_below (g := gb166) (o := .cells #[.int .u32 a0_0, .int .i64 a0_1] 31 (0, 0)) (by (with_reducible repeat (first | refine blk_drewN ?_ _ | refine blk_drew ?_ | refine blk_alloc ?_ _)); exact BK166.out) hb); have n1_ := Aside0.mk (below_step (by repeat (first | (with_reducible first | exact HB.out | apply below_alloc | apply pw_below_drewN | apply below_drew1 | refine below_set ?_ GE166.out) | exact HB.out)) hb); clear BK166; clear HB; have BK166 := n0_; have HB := n1_; clear n0_ n1_; (try clear hb); (try clear hb2); (try clear hk); (try clear hi)))
        have n0_ := Aside0.mk (blk_drew BK166.out)
        have n1_ := Aside0.mk (below_drew1 HB.out)
        clear BK166
        clear HB
        have BK166 := n0_
        have HB := n1_
        clear n0_ n1_
        refine start_ (n := 10) (S := fun w' => w'.cell? ⟨gb166, 0, none⟩ = some (.int .u32 a0_0) ∧ w'.cell? ⟨gb166, 1, none⟩ = some (.int .i64 a0_1)) (ds := []) #[false, false, false, false, false, false, false, false, false, false] (by kernel_rfl) rfl rfl ⟨(blk_cell BK166.out 0).trans rfl, (blk_cell BK166.out 1).trans rfl⟩ (fun hHeld => ?_); refine with_tabW addr_FormatPrefix.tab4 addr_FormatPrefix.bits4 (fun HT_ HW_ => ?_)
        generalize w10.drew = w11 at BK166 HB hHeld ⊢
        refine pure_ (i := 0) (N := some 10) (v := ?_) (a' := ?_) #[true, false, false, false, false, false, false, false, false, false] rfl rfl (any_of HT_.out (by kernel_rfl)) (fun _ _ _ h => h) (Or.inl ⟨by rfl, ?_⟩) ?_ ?_
        rotate_left
        · intro w'
          go_simp
          with_reducible rfl
        rotate_left
        · simp only [Act.put, List.setIfInBounds_toArray, List.set_cons_zero, List.set_cons_succ, i64_w, i32_w]
          rfl
        refine pure_ (i := 4) (N := some 14) (v := ?_) (a' := ?_) #[true, false, false, false, true, false, false, false, false, false] rfl rfl (any_of HT_.out (by kernel_rfl)) (fun _ _ _ h => h) (Or.inl ⟨by rfl, ?_⟩) ?_ ?_
        rotate_left
        · intro w'
          go_simp
          with_reducible rfl
        rotate_left
        · simp only [Act.put, List.setIfInBounds_toArray, List.set_cons_zero, List.set_cons_succ, i64_w, i32_w]
          rfl
        refine take_ (i := 1) (N := some 11) (v := ?_) (a' := ?_) #[true, true, false, false, true, false, false, false, false, false] rfl rfl (take_ofW HT_.out HW_.out (by kernel_rfl)) (fun _ _ _ h => h) (Or.inl ⟨by rfl, ?_⟩) hHeld ?_ ?_
        rotate_left
        · rintro w' ⟨s0, s1⟩
          go_simp
          with_reducible rfl
        rotate_left
        · simp only [Act.put, List.setIfInBounds_toArray, List.set_cons_zero, List.set_cons_succ, i64_w, i32_w]
          rfl
        refine take_ (i := 5) (N := some 15) (v := ?_) (a' := ?_) #[true, true, false, false, true, true, false, false, false, false] rfl rfl (take_ofW HT_.out HW_.out (by kernel_rfl)) (fun _ _ _ h => h) (Or.inl ⟨by rfl, ?_⟩) hHeld ?_ ?_
        rotate_left
        · rintro w' ⟨s0, s1⟩
          go_simp
          with_reducible rfl
        rotate_left
        · simp only [Act.put, List.setIfInBounds_toArray, List.set_cons_zero, List.set_cons_succ, i64_w, i32_w]
          rfl
        refine one_ (i := 2) (N := some 12) #[true, true, true, false, true, true, false, false, false, false] rfl rfl (one_of HT_.out (by kernel_rfl)) (by decide) (fun K hK => ?_)
        refine goes_ Tryd.func18 (by kernel_rfl) rfl #[.int .u32 a0_0] (by rfl) rfl rfl (by (try simp only [List.map_toArray, List.map_cons, List.map_nil]); first | done | rfl | (simp only [List.length_drop, List.length_take]; rfl)) ?_
        with_reducible refine (addr_Format.calls k a0_0 t168 _ A4.out).mono ?_
        rintro e w12 ⟨rfl, hb⟩
        refine ⟨_, rfl, ?_⟩
        have n0_ := Aside0.mk (blk_below (g := gb166) (o := .cells #[.int .u32 a0_0, .int .i64 a0_1] 31 (0, 0)) (by (with_reducible repeat (first | refine blk_drewN ?_ _ | refine blk_drew ?_ | refine blk_alloc ?_ _)); exact BK166.out) hb)
        have n1_ := Aside0.mk (below_step (by repeat (first | (with_reducible first | exact HB.out | apply below_alloc | apply pw_below_drewN | apply below_drew1 | refine below_set ?_ GE166.out) | exact HB.out)) hb)
        clear BK166
        clear HB
        have BK166 := n0_
        have HB := n1_
        clear n0_ n1_
        (try clear hb)
        (try clear hb2)
        (try clear hk)
        (try clear hi)
        refine hK.out _ _ ⟨(blk_cell BK166.out 0).trans rfl, (blk_cell BK166.out 1).trans rfl⟩ (fun hHeld => ?_)
        clear hK K
        refine norm_ (a' := ?_) ?_ ?_
        rotate_left
        · show Act.put _ (some 12) _ = _
          simp only [Act.put, List.setIfInBounds_toArray, List.set_cons_zero, List.set_cons_succ, i64_w, i32_w]
          rfl
        refine pure_ (i := 3) (N := some 13) (v := ?_) (a' := ?_) #[true, true, true, true, true, true, false, false, false, false] rfl rfl (any_of HT_.out (by kernel_rfl)) (fun _ _ _ h => h) (Or.inl ⟨by rfl, ?_⟩) ?_ ?_
        rotate_left
        · intro w'
          go_simp
          with_reducible rfl
        rotate_left
        · simp only [Act.put, List.setIfInBounds_toArray, List.set_cons_zero, List.set_cons_succ, i64_w, i32_w]
          rfl
        refine one_ (i := 6) (N := some 16) #[true, true, true, true, true, true, true, false, false, false] rfl rfl (one_of HT_.out (by kernel_rfl)) (by decide) (fun K hK => ?_)
        refine goes_ Tryd.func43 (by kernel_rfl) rfl #[.int .i64 a0_1] (by rfl) rfl rfl (by (try simp only [List.map_toArray, List.map_cons, List.map_nil]); first | done | rfl | (simp only [List.length_drop, List.length_take]; rfl)) ?_
        with_reducible refine (addr_digits.calls k a0_1 t169 _ A6.out).mono ?_
        rintro e w13 ⟨rfl, hb⟩
        refine ⟨_, rfl, ?_⟩
        have n0_ := Aside0.mk (blk_below (g := gb166) (o := .cells #[.int .u32 a0_0, .int .i64 a0_1] 31 (0, 0)) (by (with_reducible repeat (first | refine blk_drewN ?_ _ | refine blk_drew ?_ | refine blk_alloc ?_ _)); exact BK166.out) hb)
        have n1_ := Aside0.mk (below_step (by repeat (first | (with_reducible first | exact HB.out | apply below_alloc | apply pw_below_drewN | apply below_drew1 | refine below_set ?_ GE166.out) | exact HB.out)) hb)
        clear BK166
        clear HB
        have BK166 := n0_
        have HB := n1_
        clear n0_ n1_
        (try clear hb)
        (try clear hb2)
        (try clear hk)
        (try clear hi)
        refine hK.out _ _ ⟨(blk_cell BK166.out 0).trans rfl, (blk_cell BK166.out 1).trans rfl⟩ (fun hHeld => ?_)
        clear hK K
        refine norm_ (a' := ?_) ?_ ?_
        rotate_left
        · show Act.put _ (some 16) _ = _
          simp only [Act.put, List.setIfInBounds_toArray, List.set_cons_zero, List.set_cons_succ, i64_w, i32_w]
          rfl
        refine pure_ (i := 7) (N := some 17) (v := ?_) (a' := ?_) #[true, true, true, true, true, true, true, true, false, false] rfl rfl (any_of HT_.out (by kernel_rfl)) (fun _ _ _ h => h) (Or.inl ⟨by rfl, ?_⟩) ?_ ?_
        rotate_left
        · intro w'
          go_simp
          with_reducible rfl
        rotate_left
        · simp only [Act.put, List.setIfInBounds_toArray, List.set_cons_zero, List.set_cons_succ, i64_w, i32_w]
          rfl
        refine pure_ (i := 8) (N := some 2) (v := ?_) (a' := ?_) #[true, true, true, true, true, true, true, true, true, false] rfl rfl (any_of HT_.out (by kernel_rfl)) (fun _ _ _ h => h) (Or.inl ⟨by rfl, ?_⟩) ?_ ?_
        rotate_left
        · intro w'
          go_simp
          with_reducible rfl
        rotate_left
        · simp only [Act.put, List.setIfInBounds_toArray, List.set_cons_zero, List.set_cons_succ, i64_w, i32_w]
          rfl
        refine pure_ (i := 9) (N := some 3) (v := ?_) (a' := ?_) #[true, true, true, true, true, true, true, true, true, true] rfl rfl (any_of HT_.out (by kernel_rfl)) (fun _ _ _ h => h) (Or.inl ⟨by rfl, ?_⟩) ?_ ?_
        rotate_left
        · intro w'
          go_simp
          with_reducible rfl
        rotate_left
        · simp only [Act.put, List.setIfInBounds_toArray, List.set_cons_zero, List.set_cons_succ, i64_w, i32_w]
          rfl
        refine done_ (done_of HT_.out (by kernel_rfl)) ?_
        try go_wp2
        go_ret2
        exact ⟨by first | rfl | (simp [errW_none, errW_some] <;> rfl) | (simp [*, errW_none, errW_some] <;> rfl), by repeat (first | (with_reducible first | exact HB.out | apply below_alloc | apply pw_below_drewN | apply below_drew1 | refine below_set ?_ GE166.out) | exact HB.out)⟩
      · rw [if_neg c7] at H
        exact absurd H (by simp)
    · rw [if_neg c5] at H
      exact absurd H (by simp)
  · rw [if_neg c3] at H
    have c3b0 : (t167 == 0) = false := beq_eq_false_iff_ne.mpr c3
    have c3b1 : (t167 != 0) = true := bne_iff_ne.mpr c3
    simp only [Option.some.injEq, Prod.mk.injEq] at H
    obtain ⟨rfl, rfl⟩ := H
    go_enter Tryd.func20, Tryd.ntmps20
    go_wp2_with (first | ((with_reducible refine gate_dst (N := 1) rfl ?_); refine box_event ?hg (N := 1) ?hd (cs := #[.int .u32 a0_0, .int .i64 a0_1]) (t := 31) ?hr ?_; (case hd => rfl); (case hg => rfl); (case hr => first | (go_simp; done) | (go_simp; rfl)); intro gb166 hg w14 hbox hb; have n0_ := Aside0.mk (below_step (by repeat (first | (with_reducible first | exact HB.out | apply below_alloc | apply pw_below_drewN | apply below_drew1) | exact HB.out)) hb); have n1_ := Aside0.mk (hbox); have n2_ := Aside0.mk ((by rw [hg]; exact (below_size (by repeat (first | (with_reducible first | exact HB.out | apply below_alloc | apply pw_below_drewN | apply below_drew1) | exact HB.out))) : w.heap.size ≤ gb166)); have n3_ := Aside0.mk ((by rw [hg]; exact (below_size (by repeat (first | (with_reducible first | exact HB.out | apply below_alloc | apply pw_below_drewN | apply below_drew1) | exact HB.out))) : w.heap.size ≤ gb166)); clear HB; have HB := n0_; have BK166 := n1_; have GW166 := n2_; have GE166 := n3_; clear n0_ n1_ n2_ n3_; clear hb hbox hg; have hcz15_0 : w14.cell? ⟨gb166, 0, none⟩ = some (.int .u32 a0_0) := (blk_cell BK166.out 0).trans rfl; have hcz15_1 : w14.cell? ⟨gb166, 1, none⟩ = some (.int .i64 a0_1) := (blk_cell BK166.out 1).trans rfl; have hfz15_0 := blk_frozen BK166.out 0; have hfz15_1 := blk_frozen BK166.out 1) | ((with_reducible refine gate_callee (f := 45) rfl ?_); refine goesL_ (some 6) rfl rfl Tryd.func45 (by kernel_rfl) rfl #[.agg #[.int .u32 a0_0, .int .i64 a0_1]] rfl (by (try simp only [List.map_toArray, List.map_cons, List.map_nil]); first | done | rfl | (simp only [List.length_drop, List.length_take]; rfl)) ?_; (with_reducible refine (addr_fault.calls k a0_0 a0_1 t167 _ A2.out).mono ?_); rintro e w16 ⟨rfl, hb⟩; refine ⟨_, rfl, ?_⟩; have n0_ := Aside0.mk (blk_below (g := gb166) (o := .cells #[.int .u32 a0_0, .int .i64 a0_1] 31 (0, 0)) (by (with_reducible repeat (first | refine blk_drewN ?_ _ | refine blk_drew ?_ | refine blk_alloc ?_ _)); exact BK166.out) hb); have n1_ := Aside0.mk (below_step (by repeat (first | (with_reducible first | exact HB.out | apply below_alloc | apply pw_below_drewN | apply below_drew1 | refine below_set ?_ GE166.out) | exact HB.out)) hb); clear BK166; clear HB; have BK166 := n0_; have HB := n1_; clear n0_ n1_; (try clear hb); (try clear hb2); (try clear hk); (try clear hi)))
    go_ret2
    exact ⟨by first | rfl | (simp [errW_none, errW_some] <;> rfl) | (simp [*, errW_none, errW_some] <;> rfl), by repeat (first | (with_reducible first | exact HB.out | apply below_alloc | apply pw_below_drewN | apply below_drew1 | refine below_set ?_ GE166.out) | exact HB.out)⟩

/-! ### weftref1_FormatPrefix: function 21 -/
def weftref1_FormatPrefix.f (k : Nat) (a0_0 : Int) (a0_1 : Int) : Option (ByteArray × Int) := (weftref1_fault.f k a0_0 a0_1).bind fun t171 => (if t171 = 0 then ((weftref1_Format.f k a0_0).bind fun t172 => (if t172.size + 1 ≤ 9223372036854775807 then ((strconv_Itoa.f a0_1).bind fun t173 => (if (t172 ++ (⟨#[47]⟩ : ByteArray)).size + t173.size ≤ 9223372036854775807 then (some ((t172 ++ (⟨#[47]⟩ : ByteArray)) ++ t173, 0)) else (none))) else (none))) else (some ((⟨#[]⟩ : ByteArray), t171)))
theorem weftref1_FormatPrefix.mono : ∀ a0 a1 k, LeO (weftref1_FormatPrefix.f k a0 a1) (weftref1_FormatPrefix.f (k + 1) a0 a1) := by
  intro a0 a1 k
  unfold weftref1_FormatPrefix.f
  repeat' first
      | (with_reducible exact weftref1_Format.mono _ _)
      | (with_reducible exact weftref1_fault.mono _ _ _)
      | (with_reducible exact LeO.refl _)
      | (with_reducible exact LeO.none _)
      | (with_reducible refine LeO.ite ?_ ?_)
      | (with_reducible refine LeO.bind ?_ (fun _ => ?_))
      | exact weftref1_Format.mono _ _
      | exact weftref1_fault.mono _ _ _
      | exact LeO.none _
      | refine LeO.ite ?_ ?_
      | refine LeO.bind ?_ (fun _ => ?_)
set_option maxHeartbeats 8000000 in
set_option maxRecDepth 100000 in
theorem weftref1_FormatPrefix.calls (k : Nat) (a0_0 : Int) (a0_1 : Int) (r1 : ByteArray) (r2 : Int) (w : World) (hP : Pow w) (h : weftref1_FormatPrefix.f k a0_0 a0_1 = some (r1, r2)) :
    Calls Tryd.prog 21 #[.agg #[.int .u32 a0_0, .int .i64 a0_1]] w fun e w' => e = .returned (.tuple #[.string r1, .int .i64 r2]) ∧ Below w.heap.size w w' := by
  have HP := Aside0.mk hP
  clear hP
  have hu31 := Tryd.underlying31
  have HB := Aside0.mk (Below.refl w.heap.size w)
  have H : ((weftref1_fault.f k a0_0 a0_1).bind fun t171 => (if t171 = 0 then ((weftref1_Format.f k a0_0).bind fun t172 => (if t172.size + 1 ≤ 9223372036854775807 then ((strconv_Itoa.f a0_1).bind fun t173 => (if (t172 ++ (⟨#[47]⟩ : ByteArray)).size + t173.size ≤ 9223372036854775807 then (some ((t172 ++ (⟨#[47]⟩ : ByteArray)) ++ t173, 0)) else (none))) else (none))) else (some ((⟨#[]⟩ : ByteArray), t171)))) = some (r1, r2) := h
  clear h
  replace H := Option.bind_eq_some_iff.mp H
  obtain ⟨t171, A20, H⟩ := H
  replace H : (if t171 = 0 then ((weftref1_Format.f k a0_0).bind fun t172 => (if t172.size + 1 ≤ 9223372036854775807 then ((strconv_Itoa.f a0_1).bind fun t173 => (if (t172 ++ (⟨#[47]⟩ : ByteArray)).size + t173.size ≤ 9223372036854775807 then (some ((t172 ++ (⟨#[47]⟩ : ByteArray)) ++ t173, 0)) else (none))) else (none))) else (some ((⟨#[]⟩ : ByteArray), t171))) = some (r1, r2) := H
  have A2 := Aside0.mk A20
  clear A20
  by_cases c3 : t171 = 0
  · rw [if_pos c3] at H
    have c3b0 : (t171 == 0) = true := beq_iff_eq.mpr c3
    have c3b1 : (t171 != 0) = false := bne_eq_false_iff_eq.mpr c3
    clear c3
    replace H := Option.bind_eq_some_iff.mp H
    obtain ⟨t172, A40, H⟩ := H
    replace H : (if t172.size + 1 ≤ 9223372036854775807 then ((strconv_Itoa.f a0_1).bind fun t173 => (if (t172 ++ (⟨#[47]⟩ : ByteArray)).size + t173.size ≤ 9223372036854775807 then (some ((t172 ++ (⟨#[47]⟩ : ByteArray)) ++ t173, 0)) else (none))) else (none)) = some (r1, r2) := H
    have A4 := Aside0.mk A40
    clear A40
    by_cases c5 : t172.size + 1 ≤ 9223372036854775807
    · rw [if_pos c5] at H
      have c5b0 := eq_true c5
      have c5b1 : decide (t172.size + 1 ≤ 9223372036854775807) = true := decide_eq_true c5
      try have c5b2 : (9223372036854775807 < t172.size + 1) = False := eq_false (Nat.not_lt.2 c5)
      replace H := Option.bind_eq_some_iff.mp H
      obtain ⟨t173, A60, H⟩ := H
      replace H : (if (t172 ++ (⟨#[47]⟩ : ByteArray)).size + t173.size ≤ 9223372036854775807 then (some ((t172 ++ (⟨#[47]⟩ : ByteArray)) ++ t173, 0)) else (none)) = some (r1, r2) := H
      have A6 := Aside0.mk A60
      clear A60
      by_cases c7 : (t172 ++ (⟨#[47]⟩ : ByteArray)).size + t173.size ≤ 9223372036854775807
      · rw [if_pos c7] at H
        have c7b0 := eq_true c7
        have c7b1 : decide ((t172 ++ (⟨#[47]⟩ : ByteArray)).size + t173.size ≤ 9223372036854775807) = true := decide_eq_true c7
        try have c7b2 : (9223372036854775807 < (t172 ++ (⟨#[47]⟩ : ByteArray)).size + t173.size) = False := eq_false (Nat.not_lt.2 c7)
        have c7y := c7
        (try simp [go_sem] at c7y)
        (try have c7z : _ = False := eq_false (Nat.not_lt.2 c7y))
        simp only [Option.some.injEq, Prod.mk.injEq] at H
        obtain ⟨rfl, rfl⟩ := H
        go_enter Tryd.func21, Tryd.ntmps21
        go_wp2_with (first | ((with_reducible refine gate_dst (N := 1) rfl ?_); refine box_event ?hg (N := 1) ?hd (cs := #[.int .u32 a0_0, .int .i64 a0_1]) (t := 31) ?hr ?_; (case hd => rfl); (case hg => rfl); (case hr => first | (go_simp; done) | (go_simp; rfl)); intro gb170 hg w8 hbox hb; have n0_ := Aside0.mk (below_step (by repeat (first | (with_reducible first | exact HB.out | apply below_alloc | apply pw_below_drewN | apply below_drew1) | exact HB.out)) hb); have n1_ := Aside0.mk (hbox); have n2_ := Aside0.mk ((by rw [hg]; exact (below_size (by repeat (first | (with_reducible first | exact HB.out | apply below_alloc | apply pw_below_drewN | apply below_drew1) | exact HB.out))) : w.heap.size ≤ gb170)); have n3_ := Aside0.mk ((by rw [hg]; exact (below_size (by repeat (first | (with_reducible first | exact HB.out | apply below_alloc | apply pw_below_drewN | apply below_drew1) | exact HB.out))) : w.heap.size ≤ gb170)); clear HB; have HB := n0_; have BK170 := n1_; have GW170 := n2_; have GE170 := n3_; clear n0_ n1_ n2_ n3_; clear hb hbox hg; have hcz9_0 : w8.cell? ⟨gb170, 0, none⟩ = some (.int .u32 a0_0) := (blk_cell BK170.out 0).trans rfl; have hcz9_1 : w8.cell? ⟨gb170, 1, none⟩ = some (.int .i64 a0_1) := (blk_cell BK170.out 1).trans rfl; have hfz9_0 := blk_frozen BK170.out 0; have hfz9_1 := blk_frozen BK170.out 1) | ((with_reducible refine gate_callee (f := 40) rfl ?_); refine goesL_ (some 7) rfl rfl Tryd.func40 (by kernel_rfl) rfl #[.agg #[.int .u32 a0_0, .int .i64 a0_1]] rfl (by (try simp only [List.map_toArray, List.map_cons, List.map_nil]); first | done | rfl | (simp only [List.length_drop, List.length_take]; rfl)) ?_; (with_reducible refine (weftref1_fault.calls k a0_0 a0_1 t171 _ A2.out).mono ?_); rintro e w10 ⟨rfl, hb⟩; refine ⟨_, rfl, ?_⟩; have n0_ := Aside0.mk (blk_below (g := gb170) (o := .cells #[.int .u32 a0_0, .int .i64 a0_1] 31 (0, 0)) (by (with_reducible repeat (first | refine blk_drewN ?_ _ | refine blk_drew ?_ | refine blk_alloc ?_ _)); exact BK170.out) hb); have n1_ := Aside0.mk (below_step (by repeat (first | (with_reducible first | exact HB.out | apply below_alloc | apply pw_below_drewN | apply below_drew1 | refine below_set ?_ GE170.out) | exact HB.out)) hb); clear BK170; clear HB; have BK170 := n0_; have HB := n1_; clear n0_ n1_; (try clear hb); (try clear hb2); (try clear hk); (try clear hi); have hcz11_0 : w10.cell? ⟨gb170, 0, none⟩ = some (.int .u32 a0_0) := (blk_cell BK170.out 0).trans rfl; have hcz11_1 : w10.cell? ⟨gb170, 1, none⟩ = some (.int .i64 a0_1) := (blk_cell BK170.out 1).trans rfl; have hfz11_0 := blk_frozen BK170.out 0; have hfz11_1 := blk_frozen BK170.out 1) | ((with_reducible refine gate_callee (f := 19) rfl ?_); refine goesL_ (some 13) rfl rfl Tryd.func19 (by kernel_rfl) rfl #[.int .u32 a0_0] rfl (by (try simp only [List.map_toArray, List.map_cons, List.map_nil]); first | done | rfl | (simp only [List.length_drop, List.length_take]; rfl)) ?_; (with_reducible refine (weftref1_Format.calls k a0_0 t172 _ (by first | exact HP.out | exact HP.out.on HB.out | exact HP.out.drewN _ | exact (HP.out.on HB.out).drewN _ | (refine HP.out.on ?_; repeat (first | (with_reducible first | exact HB.out | apply below_alloc | apply pw_below_drewN | apply below_drew1) | refine below_set ?_ (Aside0.out (by assumption)) | exact HB.out | exact Below.refl _ _))) A4.out).mono ?_); rintro e w12 ⟨rfl, hb⟩; refine ⟨_, rfl, ?_⟩; have n0_ := Aside0.mk (blk_below (g := gb170) (o := .cells #[.int .u32 a0_0, .int .i64 a0_1] 31 (0, 0)) (by (with_reducible repeat (first | refine blk_drewN ?_ _ | refine blk_drew ?_ | refine blk_alloc ?_ _)); exact BK170.out) hb); have n1_ := Aside0.mk (below_step (by repeat (first | (with_reducible first | exact HB.out | apply below_alloc | apply pw_below_drewN | apply below_drew1 | refine below_set ?_ GE170.out) | exact HB.out)) hb); clear BK170; clear HB; have BK170 := n0_; have HB := n1_; clear n0_ n1_; (try clear hb); (try clear hb2); (try clear hk); (try clear hi); have hcz13_0 : w12.cell? ⟨gb170, 0, none⟩ = some (.int .u32 a0_0) := (blk_cell BK170.out 0).trans rfl; have hcz13_1 : w12.cell? ⟨gb170, 1, none⟩ = some (.int .i64 a0_1) := (blk_cell BK170.out 1).trans rfl; have hfz13_0 := blk_frozen BK170.out 0; have hfz13_1 := blk_frozen BK170.out 1) | ((with_reducible refine gate_callee (f := 44) rfl ?_); refine goesL_ (some 18) rfl rfl Tryd.func44 (by kernel_rfl) rfl #[.int .i64 a0_1] rfl (by (try simp only [List.map_toArray, List.map_cons, List.map_nil]); first | done | rfl | (simp only [List.length_drop, List.length_take]; rfl)) ?_; (with_reducible refine (strconv_Itoa.calls a0_1 t173 _ (by first | exact HP.out | exact HP.out.on HB.out | exact HP.out.drewN _ | exact (HP.out.on HB.out).drewN _ | (refine HP.out.on ?_; repeat (first | (with_reducible first | exact HB.out | apply below_alloc | apply pw_below_drewN | apply below_drew1) | refine below_set ?_ (Aside0.out (by assumption)) | exact HB.out | exact Below.refl _ _))) A6.out).mono ?_); rintro e w14 ⟨rfl, hb⟩; refine ⟨_, rfl, ?_⟩; have n0_ := Aside0.mk (blk_below (g := gb170) (o := .cells #[.int .u32 a0_0, .int .i64 a0_1] 31 (0, 0)) (by (with_reducible repeat (first | refine blk_drewN ?_ _ | refine blk_drew ?_ | refine blk_alloc ?_ _)); exact BK170.out) hb); have n1_ := Aside0.mk (below_step (by repeat (first | (with_reducible first | exact HB.out | apply below_alloc | apply pw_below_drewN | apply below_drew1 | refine below_set ?_ GE170.out) | exact HB.out)) hb); clear BK170; clear HB; have BK170 := n0_; have HB := n1_; clear n0_ n1_; (try clear hb); (try clear hb2); (try clear hk); (try clear hi)))
        go_ret2
        exact ⟨by first | rfl | (simp [errW_none, errW_some] <;> rfl) | (simp [*, errW_none, errW_some] <;> rfl), by repeat (first | (with_reducible first | exact HB.out | apply below_alloc | apply pw_below_drewN | apply below_drew1 | refine below_set ?_ GE170.out) | exact HB.out)⟩
      · rw [if_neg c7] at H
        exact absurd H (by simp)
    · rw [if_neg c5] at H
      exact absurd H (by simp)
  · rw [if_neg c3] at H
    have c3b0 : (t171 == 0) = false := beq_eq_false_iff_ne.mpr c3
    have c3b1 : (t171 != 0) = true := bne_iff_ne.mpr c3
    simp only [Option.some.injEq, Prod.mk.injEq] at H
    obtain ⟨rfl, rfl⟩ := H
    go_enter Tryd.func21, Tryd.ntmps21
    go_wp2_with (first | ((with_reducible refine gate_dst (N := 1) rfl ?_); refine box_event ?hg (N := 1) ?hd (cs := #[.int .u32 a0_0, .int .i64 a0_1]) (t := 31) ?hr ?_; (case hd => rfl); (case hg => rfl); (case hr => first | (go_simp; done) | (go_simp; rfl)); intro gb170 hg w15 hbox hb; have n0_ := Aside0.mk (below_step (by repeat (first | (with_reducible first | exact HB.out | apply below_alloc | apply pw_below_drewN | apply below_drew1) | exact HB.out)) hb); have n1_ := Aside0.mk (hbox); have n2_ := Aside0.mk ((by rw [hg]; exact (below_size (by repeat (first | (with_reducible first | exact HB.out | apply below_alloc | apply pw_below_drewN | apply below_drew1) | exact HB.out))) : w.heap.size ≤ gb170)); have n3_ := Aside0.mk ((by rw [hg]; exact (below_size (by repeat (first | (with_reducible first | exact HB.out | apply below_alloc | apply pw_below_drewN | apply below_drew1) | exact HB.out))) : w.heap.size ≤ gb170)); clear HB; have HB := n0_; have BK170 := n1_; have GW170 := n2_; have GE170 := n3_; clear n0_ n1_ n2_ n3_; clear hb hbox hg; have hcz16_0 : w15.cell? ⟨gb170, 0, none⟩ = some (.int .u32 a0_0) := (blk_cell BK170.out 0).trans rfl; have hcz16_1 : w15.cell? ⟨gb170, 1, none⟩ = some (.int .i64 a0_1) := (blk_cell BK170.out 1).trans rfl; have hfz16_0 := blk_frozen BK170.out 0; have hfz16_1 := blk_frozen BK170.out 1) | ((with_reducible refine gate_callee (f := 40) rfl ?_); refine goesL_ (some 7) rfl rfl Tryd.func40 (by kernel_rfl) rfl #[.agg #[.int .u32 a0_0, .int .i64 a0_1]] rfl (by (try simp only [List.map_toArray, List.map_cons, List.map_nil]); first | done | rfl | (simp only [List.length_drop, List.length_take]; rfl)) ?_; (with_reducible refine (weftref1_fault.calls k a0_0 a0_1 t171 _ A2.out).mono ?_); rintro e w17 ⟨rfl, hb⟩; refine ⟨_, rfl, ?_⟩; have n0_ := Aside0.mk (blk_below (g := gb170) (o := .cells #[.int .u32 a0_0, .int .i64 a0_1] 31 (0, 0)) (by (with_reducible repeat (first | refine blk_drewN ?_ _ | refine blk_drew ?_ | refine blk_alloc ?_ _)); exact BK170.out) hb); have n1_ := Aside0.mk (below_step (by repeat (first | (with_reducible first | exact HB.out | apply below_alloc | apply pw_below_drewN | apply below_drew1 | refine below_set ?_ GE170.out) | exact HB.out)) hb); clear BK170; clear HB; have BK170 := n0_; have HB := n1_; clear n0_ n1_; (try clear hb); (try clear hb2); (try clear hk); (try clear hi)))
    go_ret2
    exact ⟨by first | rfl | (simp [errW_none, errW_some] <;> rfl) | (simp [*, errW_none, errW_some] <;> rfl), by repeat (first | (with_reducible first | exact HB.out | apply below_alloc | apply pw_below_drewN | apply below_drew1 | refine below_set ?_ GE170.out) | exact HB.out)⟩

/-! ### addr_FormatMAC: function 22 -/
-- calls=
def hexs : ByteArray := ⟨#[48, 49, 50, 51, 52, 53, 54, 55, 56, 57, 97, 98, 99, 100, 101, 102]⟩
def macByte (M : Nat → Int) (j : Nat) : Int := if j % 3 = 0 then bt hexs (M (j / 3) / 16) else if j % 3 = 1 then bt hexs (M (j / 3) % 16) else 58
def MacRow (M : Nat → Int) (i : Nat) (cs : Array Value) : Prop := cs.size = 17 ∧ ∀ j, j < 3 * i → j < 17 → cs[j]? = some (.int .u8 (macByte M j))
theorem macByte_0 (M : Nat → Int) (i : Nat) : macByte M (3 * i) = bt hexs (M i / 16) := by
  unfold macByte
  rw [if_pos (by omega), show 3 * i / 3 = i from by omega]
theorem macByte_1 (M : Nat → Int) (i : Nat) : macByte M (3 * i + 1) = bt hexs (M i % 16) := by
  unfold macByte
  rw [if_neg (by omega), if_pos (by omega), show (3 * i + 1) / 3 = i from by omega]
theorem macByte_2 (M : Nat → Int) (i : Nat) : macByte M (3 * i + 2) = 58 := by
  unfold macByte
  rw [if_neg (by omega), if_neg (by omega)]
theorem macRow_2 {M : Nat → Int} {i : Nat} {cs : Array Value} (h : MacRow M i cs) (hi : i < 6) (j : Nat) (hj : j < 3 * i + 2) (hj' : j < 17) :
    ((cs.setIfInBounds (3 * i) (.int .u8 (bt hexs (M i / 16)))).setIfInBounds (3 * i + 1) (.int .u8 (bt hexs (M i % 16))))[j]? = some (.int .u8 (macByte M j)) := by
  obtain ⟨hs, hc⟩ := h
  simp only [Array.getElem?_setIfInBounds, Array.size_setIfInBounds]
  by_cases h1 : 3 * i + 1 = j
  · rw [if_pos h1, if_pos (by omega), ← h1, macByte_1]
  · rw [if_neg h1]
    by_cases h0 : 3 * i = j
    · rw [if_pos h0, if_pos (by omega), ← h0, macByte_0]
    · rw [if_neg h0]; exact hc j (by omega) hj'
theorem macRow_five {M : Nat → Int} {i : Nat} {cs : Array Value} (h : MacRow M i cs) (hi : i < 6) (h5 : ¬ i < 5) :
    MacRow M (i + 1) ((cs.setIfInBounds (3 * i) (.int .u8 (bt hexs (M i / 16)))).setIfInBounds (3 * i + 1) (.int .u8 (bt hexs (M i % 16)))) :=
  ⟨by simp [h.1], fun j _ hj' => macRow_2 h hi j (by omega) hj'⟩
theorem macRow_step {M : Nat → Int} {i : Nat} {cs : Array Value} (h : MacRow M i cs) (h5 : i < 5) :
    MacRow M (i + 1) (((cs.setIfInBounds (3 * i) (.int .u8 (bt hexs (M i / 16)))).setIfInBounds (3 * i + 1) (.int .u8 (bt hexs (M i % 16)))).setIfInBounds (3 * i + 2) (.int .u8 58)) := by
  refine ⟨by simp [h.1], fun j hj hj' => ?_⟩
  rw [Array.getElem?_setIfInBounds]
  by_cases h2 : 3 * i + 2 = j
  · rw [if_pos h2, if_pos (by simp [h.1]; omega), ← h2, macByte_2]
  · rw [if_neg h2]; exact macRow_2 h (by omega) j (by omega) hj'
/-- six numbers as a function of their places -/
def macFn (a0 a1 a2 a3 a4 a5 : Int) : Nat → Int
  | 0 => a0
  | 1 => a1
  | 2 => a2
  | 3 => a3
  | 4 => a4
  | _ => a5
def byteIn (a : Int) : Prop := 0 ≤ a ∧ a < 256
instance (a : Int) : Decidable (byteIn a) := inferInstanceAs (Decidable (_ ∧ _))
def addr_FormatMAC.f (a0_0 a0_1 a0_2 a0_3 a0_4 a0_5 : Int) : Option ByteArray :=
  if byteIn a0_0 ∧ byteIn a0_1 ∧ byteIn a0_2 ∧ byteIn a0_3 ∧ byteIn a0_4 ∧ byteIn a0_5 then some (strOfNums ((List.range 17).map (macByte (macFn a0_0 a0_1 a0_2 a0_3 a0_4 a0_5)))) else none
set_option maxHeartbeats 4000000 in
set_option maxRecDepth 100000 in
theorem formatMAC_walk (M : Nat → Int) (w : World) (hM : ∀ i, 0 ≤ M i ∧ M i < 256) :
    Calls Tryd.prog 22 #[.agg #[.int .u8 (M 0), .int .u8 (M 1), .int .u8 (M 2), .int .u8 (M 3), .int .u8 (M 4), .int .u8 (M 5)]] w fun e w' => e = .returned (.string (strOfNums ((List.range 17).map (macByte M)))) ∧ Below w.heap.size w w' := by
  have HM := Aside0.mk hM
  clear hM
  go_enter Tryd.func22, Tryd.ntmps22
  go_wp2
  go_loopw [5] (fun v5 wr => ∃ (i : Nat) (cs : Array Value), v5 = .int .i64 i ∧ i ≤ 6 ∧ wr.heap[w.heap.size]? = some (.cells #[.int .u8 (M 0), .int .u8 (M 1), .int .u8 (M 2), .int .u8 (M 3), .int .u8 (M 4), .int .u8 (M 5)] 33 (0, 0)) ∧
      wr.heap[w.heap.size + 1]? = some (.cells cs 75 (0, 0)) ∧ Aside0 (MacRow M i cs) ∧ Aside0 (Below w.heap.size w wr)) (fun v5 _ => 6 - (intOf v5).toNat)
  case atStart =>
    refine ⟨0, Array.replicate 17 (.int .u8 0), rfl, by omega, ?_, ?_, ⟨by rfl, fun j h => by omega⟩, ⟨((Below.refl _ _).alloc (Nat.le_refl _) _).alloc (by simp) _⟩⟩
    · exact blk_alloc (blk_new _ _) _
    · exact blk_new2 _ _ _
  case round =>
    obtain ⟨i, cs, rfl, hi, hb1, hb3, HR, HB⟩ := hrel
    by_cases hlt : i < 6
    · have hm := HM.out i
      have m0 := hm.1
      have m1 := hm.2
      clear hm
      have hci : wr.cell? ⟨w.heap.size, i, none⟩ = some (.int .u8 (M i)) := by
        unfold World.cell?
        rw [hb1]
        match i, hlt with
        | 0, _ | 1, _ | 2, _ | 3, _ | 4, _ | 5, _ => rfl
      have p0 : 0 ≤ M i / 16 := by omega
      have q0 : M i / 16 < 16 := by omega
      have r0 : 0 ≤ M i % 16 := by omega
      have s0 : M i % 16 < 16 := by omega
      have hx := bt_at ⟨#[48, 49, 50, 51, 52, 53, 54, 55, 56, 57, 97, 98, 99, 100, 101, 102]⟩ (M i / 16)
      have hy := bt_at ⟨#[48, 49, 50, 51, 52, 53, 54, 55, 56, 57, 97, 98, 99, 100, 101, 102]⟩ (M i % 16)
      obtain ⟨ca, fa⟩ := cell_blk (j := 3 * i) hb3 (by have := HR.out.1; omega)
      obtain ⟨cb, fb⟩ := cell_blk (j := 3 * i + 1) hb3 (by have := HR.out.1; omega)
      have HB3 := Aside0.mk hb3
      have HB1 := Aside0.mk hb1
      clear hb1 hb3
      by_cases h5 : i < 5
      · obtain ⟨cc, fc⟩ := cell_blk (j := 3 * i + 2) HB3.out (by have := HR.out.1; omega)
        go_wp2
        go_region
        go_wp2
        go_roundw
        case rel =>
          refine ⟨i + 1, ((cs.setIfInBounds (3 * i) (.int .u8 (bt hexs (M i / 16)))).setIfInBounds (3 * i + 1) (.int .u8 (bt hexs (M i % 16)))).setIfInBounds (3 * i + 2) (.int .u8 58), by go_num, by omega, ?_, ?_, ?_, ?_⟩
          · exact blk_far (blk_far (blk_far HB1.out (by simp) _) (by simp) _) (by simp) _
          · exact blk_set (blk_set (blk_set HB3.out _ _) _ _) _ _
          · exact ⟨macRow_step HR.out h5⟩
          · exact ⟨below_set (below_set (below_set (pw_below_drewN HB.out 1) (by simp)) (by simp)) (by simp)⟩
        case measure => simp [intOf]; omega
      · go_wp2
        go_region
        go_wp2
        go_roundw
        case rel =>
          refine ⟨i + 1, ((cs.setIfInBounds (3 * i) (.int .u8 (bt hexs (M i / 16)))).setIfInBounds (3 * i + 1) (.int .u8 (bt hexs (M i % 16)))), by go_num, by omega, ?_, ?_, ?_, ?_⟩
          · exact (blk_far (blk_far HB1.out (by simp) _) (by simp) _)
          · exact (blk_set (blk_set HB3.out _ _) _ _)
          · exact ⟨macRow_five HR.out hlt h5⟩
          · exact ⟨(below_set (below_set (pw_below_drewN HB.out 1) (by simp)) (by simp))⟩
        case measure => simp [intOf]; omega
    · obtain rfl : i = 6 := by omega
      have hcv := run_convert_bytes_arg (P := Tryd.prog) wr 76 5 Tryd.underlying76 Tryd.underlying5 (w.heap.size + 1) 0 17 17 ((List.range 17).map (macByte M)) rfl (fun j hj => by
        rw [Nat.zero_add, blk_cell hb3, HR.out.2 j (by omega) hj]
        congr 2
        simp [List.getD_eq_getElem?_getD, hj]) 9 Tryd.underlying9
      clear hb1 hb3
      go_wp2
      go_ret
      exact ⟨rfl, HB.out⟩

theorem addr_FormatMAC.calls (a0_0 a0_1 a0_2 a0_3 a0_4 a0_5 : Int) (r : ByteArray) (w : World) (h : addr_FormatMAC.f a0_0 a0_1 a0_2 a0_3 a0_4 a0_5 = some r) :
    Calls Tryd.prog 22 #[.agg #[.int .u8 a0_0, .int .u8 a0_1, .int .u8 a0_2, .int .u8 a0_3, .int .u8 a0_4, .int .u8 a0_5]] w fun e w' => e = .returned (.string r) ∧ Below w.heap.size w w' := by
  unfold addr_FormatMAC.f at h
  split at h
  · rename_i hb
    obtain rfl := Option.some.inj h
    refine formatMAC_walk (macFn a0_0 a0_1 a0_2 a0_3 a0_4 a0_5) w (fun i => ?_)
    obtain ⟨h0, h1, h2, h3, h4, h5⟩ := hb
    match i with
    | 0 => exact h0
    | 1 => exact h1
    | 2 => exact h2
    | 3 => exact h3
    | 4 => exact h4
    | _ + 5 => exact h5
  · cases h

/-! ### weftref1_FormatMAC: function 23 -/
-- calls=
def macPre (M : Nat → Int) (i : Nat) : List Int := (List.range (3 * i - 1)).map (macByte M)
theorem hex_cut : ∀ n : Nat, n < 16 → hexs.extract n (n + 1) = strOfNums [bt hexs (n : Int)] := by decide +kernel
theorem nums_app (a b : List Int) : strOfNums a ++ strOfNums b = strOfNums (a ++ b) := by
  apply ByteArray.ext
  simp [strOfNums, ByteArray.data_append]
theorem macPre_len (M : Nat → Int) (i : Nat) (hi : i ≤ 6) : (strOfNums (macPre M i)).size ≤ 20 := by
  rw [strOfNums_size]; simp [macPre]; omega
theorem macPre_zero (M : Nat → Int) : strOfNums (macPre M 1) = strOfNums [bt hexs (M 0 / 16)] ++ strOfNums [bt hexs (M 0 % 16)] := by
  rw [nums_app]; rfl
theorem macPre_step (M : Nat → Int) (i : Nat) (h0 : 0 < i) : strOfNums (macPre M (i + 1)) = strOfNums (macPre M i) ++ strOfNums [58] ++ strOfNums [bt hexs (M i / 16)] ++ strOfNums [bt hexs (M i % 16)] := by
  rw [nums_app, nums_app, nums_app]
  congr 1
  unfold macPre
  rw [show 3 * (i + 1) - 1 = (3 * i - 1) + 1 + 1 + 1 from by omega, List.range_succ, List.range_succ, List.range_succ]
  simp only [List.map_append, List.map_cons, List.map_nil]
  have e0 : macByte M (3 * i - 1) = 58 := by
    have := macByte_2 M (i - 1)
    rwa [show 3 * (i - 1) + 2 = 3 * i - 1 from by omega] at this
  have e1 : macByte M (3 * i - 1 + 1) = bt hexs (M i / 16) := by rw [show 3 * i - 1 + 1 = 3 * i from by omega]; exact macByte_0 M i
  have e2 : macByte M (3 * i - 1 + 1 + 1) = bt hexs (M i % 16) := by rw [show 3 * i - 1 + 1 + 1 = 3 * i + 1 from by omega]; exact macByte_1 M i
  rw [e0, e1, e2]
theorem hexs_slice (n : Nat) (h : n < 16) (W : World) : (Instr.slice 9 (.string ⟨#[48, 49, 50, 51, 52, 53, 54, 55, 56, 57, 97, 98, 99, 100, 101, 102]⟩) (some (.int .i64 (n : Int))) (some (.int .i64 ((n : Int) + 1))) none).run Tryd.prog W = .ok (.string (strOfNums [bt hexs (n : Int)])) W := by
  have hz : (⟨#[48, 49, 50, 51, 52, 53, 54, 55, 56, 57, 97, 98, 99, 100, 101, 102]⟩ : ByteArray).size = 16 := by decide
  have hu := Tryd.underlying9
  have hcut := hex_cut n h
  rw [run_slice_string W 9 _ .i64 .i64 (n : Int) ((n : Int) + 1) hu (by omega) (by omega) (by rw [hz]; omega)]
  congr 2
set_option maxHeartbeats 4000000 in
set_option maxRecDepth 100000 in
theorem refFormatMAC_walk (M : Nat → Int) (w : World) (hM : ∀ i, 0 ≤ M i ∧ M i < 256) :
    Calls Tryd.prog 23 #[.agg #[.int .u8 (M 0), .int .u8 (M 1), .int .u8 (M 2), .int .u8 (M 3), .int .u8 (M 4), .int .u8 (M 5)]] w fun e w' => e = .returned (.string (strOfNums ((List.range 17).map (macByte M)))) ∧ Below w.heap.size w w' := by
  have HM := Aside0.mk hM
  clear hM
  go_enter Tryd.func23, Tryd.ntmps23
  go_wp2
  go_loopw [3, 4, 5] (fun v3 v4 _ wr => ∃ (i : Nat), v3 = .string (strOfNums (macPre M i)) ∧ v4 = .int .i64 i ∧ i ≤ 6 ∧ wr.heap[w.heap.size]? = some (.cells #[.int .u8 (M 0), .int .u8 (M 1), .int .u8 (M 2), .int .u8 (M 3), .int .u8 (M 4), .int .u8 (M 5)] 33 (0, 0)) ∧
      Aside0 (Below w.heap.size w wr)) (fun _ v4 _ _ => 6 - (intOf v4).toNat)
  case atStart =>
    refine ⟨0, rfl, rfl, by omega, ?_, ⟨(Below.refl _ _).alloc (Nat.le_refl _) _⟩⟩
    exact blk_new _ _
  case round =>
    obtain ⟨i, rfl, rfl, hi, hb1, HB⟩ := hrel
    by_cases hlt : i < 6
    · have hm := HM.out i
      have m0 := hm.1
      have m1 := hm.2
      clear hm
      have hci : wr.cell? ⟨w.heap.size, i, none⟩ = some (.int .u8 (M i)) := by
        unfold World.cell?
        rw [hb1]
        match i, hlt with
        | 0, _ | 1, _ | 2, _ | 3, _ | 4, _ | 5, _ => rfl
      obtain ⟨x, hx⟩ : ∃ x : Nat, M i / 16 = x := ⟨(M i / 16).toNat, by omega⟩
      obtain ⟨y, hy⟩ : ∃ y : Nat, M i % 16 = y := ⟨(M i % 16).toNat, by omega⟩
      have q0 : x < 16 := by omega
      have s0 : y < 16 := by omega
      have t0 : (M i).tdiv 16 = x := by rw [Int.tdiv_eq_ediv_of_nonneg m0, hx]
      have t1 : (M i).tmod 16 = y := by rw [Int.tmod_eq_emod_of_nonneg m0, hy]
      have HSx := hexs_slice x q0
      have HSy := hexs_slice y s0
      have zx : (strOfNums [bt hexs (x : Int)]).size = 1 := rfl
      have zy : (strOfNums [bt hexs (y : Int)]).size = 1 := rfl
      have HX := Aside0.mk hx
      have HY := Aside0.mk hy
      clear hx hy
      have hl := macPre_len M i hi
      have HB1 := Aside0.mk hb1
      clear hb1
      by_cases h5 : 0 < i
      · go_wp2
        go_region
        go_wp2
        go_roundw
        case rel =>
          refine ⟨i + 1, ?_, by simp, by omega, HB1.out, ⟨HB.out.drew⟩⟩
          rw [macPre_step M i h5, HX.out, HY.out]
          rfl
        case measure => simp [intOf]; omega
      · obtain rfl : i = 0 := by omega
        go_wp2
        go_region
        go_wp2
        go_roundw
        case rel =>
          refine ⟨1, ?_, by simp, by omega, HB1.out, ⟨HB.out.drew⟩⟩
          rw [macPre_zero M, HX.out, HY.out]
          show Value.string (strOfNums [] ++ _ ++ _) = _
          rw [nums_app, List.nil_append]
        case measure => simp [intOf]
    · obtain rfl : i = 6 := by omega
      clear hb1
      go_wp2
      go_ret
      exact ⟨rfl, HB.out⟩
def weftref1_FormatMAC.f (a0_0 a0_1 a0_2 a0_3 a0_4 a0_5 : Int) : Option ByteArray := addr_FormatMAC.f a0_0 a0_1 a0_2 a0_3 a0_4 a0_5
theorem weftref1_FormatMAC.calls (a0_0 a0_1 a0_2 a0_3 a0_4 a0_5 : Int) (r : ByteArray) (w : World) (h : weftref1_FormatMAC.f a0_0 a0_1 a0_2 a0_3 a0_4 a0_5 = some r) :
    Calls Tryd.prog 23 #[.agg #[.int .u8 a0_0, .int .u8 a0_1, .int .u8 a0_2, .int .u8 a0_3, .int .u8 a0_4, .int .u8 a0_5]] w fun e w' => e = .returned (.string r) ∧ Below w.heap.size w w' := by
  unfold weftref1_FormatMAC.f addr_FormatMAC.f at h
  split at h
  · rename_i hb
    obtain rfl := Option.some.inj h
    refine refFormatMAC_walk (macFn a0_0 a0_1 a0_2 a0_3 a0_4 a0_5) w (fun i => ?_)
    obtain ⟨h0, h1, h2, h3, h4, h5⟩ := hb
    match i with
    | 0 => exact h0
    | 1 => exact h1
    | 2 => exact h2
    | 3 => exact h3
    | 4 => exact h4
    | _ + 5 => exact h5
  · cases h

/-! ### weftlaw1_formats: function 8 -/
def weftlaw1_formats.j0 : Nat → Bool → Int → Int → Int → Int → Int → Int → Int → Int → Int → Option (Bool)
  | 0, _, _, _, _, _, _, _, _, _, _ => none
  | k + 1, x35, x175000, x175001, x175002, x175003, x175004, x175005, x175006, x175007, x175008 => if x35 = true then (some false) else ((addr_FormatMAC.f x175003 x175004 x175005 x175006 x175007 x175008).bind fun t181 => ((weftref1_FormatMAC.f x175003 x175004 x175005 x175006 x175007 x175008).bind fun t182 => (some (t181.toList == t182.toList))))
def weftlaw1_formats.f (k : Nat) (a0_0 : Int) (a0_1 : Int) (a0_2 : Int) (a0_3 : Int) (a0_4 : Int) (a0_5 : Int) (a0_6 : Int) (a0_7 : Int) (a0_8 : Int) : Option (Bool) := (addr_Format.f k a0_0).bind fun t175 => ((weftref1_Format.f k a0_0).bind fun t176 => (if t175.toList = t176.toList then ((addr_FormatPrefix.f k a0_1 a0_2).bind fun bt177 => ((weftref1_FormatPrefix.f k a0_1 a0_2).bind fun bt179 => (if bt177.1.toList = bt179.1.toList then (weftlaw1_formats.j0 k (bt177.2 != bt179.2) a0_0 a0_1 a0_2 a0_3 a0_4 a0_5 a0_6 a0_7 a0_8) else (weftlaw1_formats.j0 k true a0_0 a0_1 a0_2 a0_3 a0_4 a0_5 a0_6 a0_7 a0_8)))) else (some false)))
theorem weftlaw1_formats.mono_l : ∀ k, (∀ y0 y1 y2 y3 y4 y5 y6 y7 y8 y9, LeO (weftlaw1_formats.j0 k y0 y1 y2 y3 y4 y5 y6 y7 y8 y9) (weftlaw1_formats.j0 (k + 1) y0 y1 y2 y3 y4 y5 y6 y7 y8 y9))
  | 0 => fun _ _ _ _ _ _ _ _ _ _ r h => by simp [weftlaw1_formats.j0] at h
  | k + 1 => by
    have ih0 := weftlaw1_formats.mono_l k
    · intro y0 y1 y2 y3 y4 y5 y6 y7 y8 y9
      unfold weftlaw1_formats.j0
      repeat' first
      | (with_reducible exact ih0 _ _ _ _ _ _ _ _ _ _)
      | (with_reducible exact addr_Format.mono _ _)
      | (with_reducible exact addr_FormatPrefix.mono _ _ _)
      | (with_reducible exact weftref1_Format.mono _ _)
      | (with_reducible exact weftref1_FormatPrefix.mono _ _ _)
      | (with_reducible exact LeO.refl _)
      | (with_reducible exact LeO.none _)
      | (with_reducible refine LeO.ite ?_ ?_)
      | (with_reducible refine LeO.bind ?_ (fun _ => ?_))
      | exact ih0 _ _ _ _ _ _ _ _ _ _
      | exact addr_Format.mono _ _
      | exact addr_FormatPrefix.mono _ _ _
      | exact weftref1_Format.mono _ _
      | exact weftref1_FormatPrefix.mono _ _ _
      | exact LeO.none _
      | refine LeO.ite ?_ ?_
      | refine LeO.bind ?_ (fun _ => ?_)
theorem weftlaw1_formats.mono : ∀ a0 a1 a2 a3 a4 a5 a6 a7 a8 k, LeO (weftlaw1_formats.f k a0 a1 a2 a3 a4 a5 a6 a7 a8) (weftlaw1_formats.f (k + 1) a0 a1 a2 a3 a4 a5 a6 a7 a8) := by
  intro a0 a1 a2 a3 a4 a5 a6 a7 a8 k
  have ih0 := weftlaw1_formats.mono_l k
  unfold weftlaw1_formats.f
  repeat' first
      | (with_reducible exact ih0 _ _ _ _ _ _ _ _ _ _)
      | (with_reducible exact addr_Format.mono _ _)
      | (with_reducible exact addr_FormatPrefix.mono _ _ _)
      | (with_reducible exact weftref1_Format.mono _ _)
      | (with_reducible exact weftref1_FormatPrefix.mono _ _ _)
      | (with_reducible exact LeO.refl _)
      | (with_reducible exact LeO.none _)
      | (with_reducible refine LeO.ite ?_ ?_)
      | (with_reducible refine LeO.bind ?_ (fun _ => ?_))
      | exact ih0 _ _ _ _ _ _ _ _ _ _
      | exact addr_Format.mono _ _
      | exact addr_FormatPrefix.mono _ _ _
      | exact weftref1_Format.mono _ _
      | exact weftref1_FormatPrefix.mono _ _ _
      | exact LeO.none _
      | refine LeO.ite ?_ ?_
      | refine LeO.bind ?_ (fun _ => ?_)
set_option maxHeartbeats 8000000 in
set_option maxRecDepth 100000 in
theorem weftlaw1_formats.calls (k : Nat) (a0_0 : Int) (a0_1 : Int) (a0_2 : Int) (a0_3 : Int) (a0_4 : Int) (a0_5 : Int) (a0_6 : Int) (a0_7 : Int) (a0_8 : Int) (r : Bool) (w : World) (hP : Pow w) (h : weftlaw1_formats.f k a0_0 a0_1 a0_2 a0_3 a0_4 a0_5 a0_6 a0_7 a0_8 = some r) :
    Calls Tryd.prog 8 #[.agg #[.int .u32 a0_0, .int .u32 a0_1, .int .i64 a0_2, .int .u8 a0_3, .int .u8 a0_4, .int .u8 a0_5, .int .u8 a0_6, .int .u8 a0_7, .int .u8 a0_8]] w fun e w' => e = .returned (.bool r) ∧ Below w.heap.size w w' := by
  have HP := Aside0.mk hP
  clear hP
  have hu35 := Tryd.underlying35
  have hu31 := Tryd.underlying31
  have hu33 := Tryd.underlying33
  have HB := Aside0.mk (Below.refl w.heap.size w)
  have H : ((addr_Format.f k a0_0).bind fun t175 => ((weftref1_Format.f k a0_0).bind fun t176 => (if t175.toList = t176.toList then ((addr_FormatPrefix.f k a0_1 a0_2).bind fun bt177 => ((weftref1_FormatPrefix.f k a0_1 a0_2).bind fun bt179 => (if bt177.1.toList = bt179.1.toList then (weftlaw1_formats.j0 k (bt177.2 != bt179.2) a0_0 a0_1 a0_2 a0_3 a0_4 a0_5 a0_6 a0_7 a0_8) else (weftlaw1_formats.j0 k true a0_0 a0_1 a0_2 a0_3 a0_4 a0_5 a0_6 a0_7 a0_8)))) else (some false)))) = some r := h
  clear h
  replace H := Option.bind_eq_some_iff.mp H
  obtain ⟨t175, A20, H⟩ := H
  replace H : ((weftref1_Format.f k a0_0).bind fun t176 => (if t175.toList = t176.toList then ((addr_FormatPrefix.f k a0_1 a0_2).bind fun bt177 => ((weftref1_FormatPrefix.f k a0_1 a0_2).bind fun bt179 => (if bt177.1.toList = bt179.1.toList then (weftlaw1_formats.j0 k (bt177.2 != bt179.2) a0_0 a0_1 a0_2 a0_3 a0_4 a0_5 a0_6 a0_7 a0_8) else (weftlaw1_formats.j0 k true a0_0 a0_1 a0_2 a0_3 a0_4 a0_5 a0_6 a0_7 a0_8)))) else (some false))) = some r := H
  have A2 := Aside0.mk A20
  clear A20
  replace H := Option.bind_eq_some_iff.mp H
  obtain ⟨t176, A30, H⟩ := H
  replace H : (if t175.toList = t176.toList then ((addr_FormatPrefix.f k a0_1 a0_2).bind fun bt177 => ((weftref1_FormatPrefix.f k a0_1 a0_2).bind fun bt179 => (if bt177.1.toList = bt179.1.toList then (weftlaw1_formats.j0 k (bt177.2 != bt179.2) a0_0 a0_1 a0_2 a0_3 a0_4 a0_5 a0_6 a0_7 a0_8) else (weftlaw1_formats.j0 k true a0_0 a0_1 a0_2 a0_3 a0_4 a0_5 a0_6 a0_7 a0_8)))) else (some false)) = some r := H
  have A3 := Aside0.mk A30
  clear A30
  by_cases c4 : t175.toList = t176.toList
  · rw [if_pos c4] at H
    have c4b0 : (t175.toList == t176.toList) = true := beq_iff_eq.mpr c4
    have c4b1 : (t175.toList != t176.toList) = false := bne_eq_false_iff_eq.mpr c4
    clear c4
    replace H := Option.bind_eq_some_iff.mp H
    obtain ⟨⟨t177, t178⟩, A50, H⟩ := H
    replace H : ((weftref1_FormatPrefix.f k a0_1 a0_2).bind fun bt179 => (if t177.toList = bt179.1.toList then (weftlaw1_formats.j0 k (t178 != bt179.2) a0_0 a0_1 a0_2 a0_3 a0_4 a0_5 a0_6 a0_7 a0_8) else (weftlaw1_formats.j0 k true a0_0 a0_1 a0_2 a0_3 a0_4 a0_5 a0_6 a0_7 a0_8))) = some r := H
    have A5 := Aside0.mk A50
    clear A50
    replace H := Option.bind_eq_some_iff.mp H
    obtain ⟨⟨t179, t180⟩, A60, H⟩ := H
    replace H : (if t177.toList = t179.toList then (weftlaw1_formats.j0 k (t178 != t180) a0_0 a0_1 a0_2 a0_3 a0_4 a0_5 a0_6 a0_7 a0_8) else (weftlaw1_formats.j0 k true a0_0 a0_1 a0_2 a0_3 a0_4 a0_5 a0_6 a0_7 a0_8)) = some r := H
    have A6 := Aside0.mk A60
    clear A60
    have HC7 := Aside0.mk H
    clear H
    go_enter Tryd.func8, Tryd.ntmps8
    go_upto_region 7 with (first | ((with_reducible refine gate_dst (N := 1) rfl ?_); refine box_event ?hg (N := 1) ?hd (cs := #[.int .u32 a0_0, .int .u32 a0_1, .int .i64 a0_2, .int .u8 a0_3, .int .u8 a0_4, .int .u8 a0_5, .int .u8 a0_6, .int .u8 a0_7, .int .u8 a0_8]) (t := 35) ?hr ?_; (case hd => rfl); (case hg => rfl); (case hr => first | (go_simp; done) | (go_simp; rfl)); intro gb174 hg w8 hbox hb; have n0_ := Aside0.mk (below_step (by repeat (first | (with_reducible first | exact HB.out | apply below_alloc | apply pw_below_drewN | apply below_drew1) | exact HB.out)) hb); have n1_ := Aside0.mk (hbox); have n2_ := Aside0.mk ((by rw [hg]; exact (below_size (by repeat (first | (with_reducible first | exact HB.out | apply below_alloc | apply pw_below_drewN | apply below_drew1) | exact HB.out))) : w.heap.size ≤ gb174)); have n3_ := Aside0.mk ((by rw [hg]; exact (below_size (by repeat (first | (with_reducible first | exact HB.out | apply below_alloc | apply pw_below_drewN | apply below_drew1) | exact HB.out))) : w.heap.size ≤ gb174)); clear HB; have HB := n0_; have BK174 := n1_; have GW174 := n2_; have GE174 := n3_; clear n0_ n1_ n2_ n3_; clear hb hbox hg; have hcz9_0 : w8.cell? ⟨gb174, 0, none⟩ = some (.int .u32 a0_0) := (blk_cell BK174.out 0).trans rfl; have hcz9_1 : w8.cell? ⟨gb174, 1, none⟩ = some (.int .u32 a0_1) := (blk_cell BK174.out 1).trans rfl; have hcz9_2 : w8.cell? ⟨gb174, 2, none⟩ = some (.int .i64 a0_2) := (blk_cell BK174.out 2).trans rfl; have hcz9_3 : w8.cell? ⟨gb174, 3, none⟩ = some (.int .u8 a0_3) := (blk_cell BK174.out 3).trans rfl; have hcz9_4 : w8.cell? ⟨gb174, 4, none⟩ = some (.int .u8 a0_4) := (blk_cell BK174.out 4).trans rfl; have hcz9_5 : w8.cell? ⟨gb174, 5, none⟩ = some (.int .u8 a0_5) := (blk_cell BK174.out 5).trans rfl; have hcz9_6 : w8.cell? ⟨gb174, 6, none⟩ = some (.int .u8 a0_6) := (blk_cell BK174.out 6).trans rfl; have hcz9_7 : w8.cell? ⟨gb174, 7, none⟩ = some (.int .u8 a0_7) := (blk_cell BK174.out 7).trans rfl; have hcz9_8 : w8.cell? ⟨gb174, 8, none⟩ = some (.int .u8 a0_8) := (blk_cell BK174.out 8).trans rfl; have hfz9_0 := blk_frozen BK174.out 0; have hfz9_1 := blk_frozen BK174.out 1; have hfz9_2 := blk_frozen BK174.out 2; have hfz9_3 := blk_frozen BK174.out 3; have hfz9_4 := blk_frozen BK174.out 4; have hfz9_5 := blk_frozen BK174.out 5; have hfz9_6 := blk_frozen BK174.out 6; have hfz9_7 := blk_frozen BK174.out 7; have hfz9_8 := blk_frozen BK174.out 8) | ((with_reducible refine gate_callee (f := 18) rfl ?_); refine goesL_ (some 9) rfl rfl Tryd.func18 (by kernel_rfl) rfl #[.int .u32 a0_0] rfl (by (try simp only [List.map_toArray, List.map_cons, List.map_nil]); first | done | rfl | (simp only [List.length_drop, List.length_take]; rfl)) ?_; (with_reducible refine (addr_Format.calls k a0_0 t175 _ A2.out).mono ?_); rintro e w10 ⟨rfl, hb⟩; refine ⟨_, rfl, ?_⟩; have n0_ := Aside0.mk (blk_below (g := gb174) (o := .cells #[.int .u32 a0_0, .int .u32 a0_1, .int .i64 a0_2, .int .u8 a0_3, .int .u8 a0_4, .int .u8 a0_5, .int .u8 a0_6, .int .u8 a0_7, .int .u8 a0_8] 35 (0, 0)) (by (with_reducible repeat (first | refine blk_drewN ?_ _ | refine blk_drew ?_ | refine blk_alloc ?_ _)); exact BK174.out) hb); have n1_ := Aside0.mk (below_step (by repeat (first | (with_reducible first | exact HB.out | apply below_alloc | apply pw_below_drewN | apply below_drew1 | refine below_set ?_ GE174.out) | exact HB.out)) hb); clear BK174; clear HB; have BK174 := n0_; have HB := n1_; clear n0_ n1_; (try clear hb); (try clear hb2); (try clear hk); (try clear hi); have hcz11_0 : w10.cell? ⟨gb174, 0, none⟩ = some (.int .u32 a0_0) := (blk_cell BK174.out 0).trans rfl; have hcz11_1 : w10.cell? ⟨gb174, 1, none⟩ = some (.int .u32 a0_1) := (blk_cell BK174.out 1).trans rfl; have hcz11_2 : w10.cell? ⟨gb174, 2, none⟩ = some (.int .i64 a0_2) := (blk_cell BK174.out 2).trans rfl; have hcz11_3 : w10.cell? ⟨gb174, 3, none⟩ = some (.int .u8 a0_3) := (blk_cell BK174.out 3).trans rfl; have hcz11_4 : w10.cell? ⟨gb174, 4, none⟩ = some (.int .u8 a0_4) := (blk_cell BK174.out 4).trans rfl; have hcz11_5 : w10.cell? ⟨gb174, 5, none⟩ = some (.int .u8 a0_5) := (blk_cell BK174.out 5).trans rfl; have hcz11_6 : w10.cell? ⟨gb174, 6, none⟩ = some (.int .u8 a0_6) := (blk_cell BK174.out 6).trans rfl; have hcz11_7 : w10.cell? ⟨gb174, 7, none⟩ = some (.int .u8 a0_7) := (blk_cell BK174.out 7).trans rfl; have hcz11_8 : w10.cell? ⟨gb174, 8, none⟩ = some (.int .u8 a0_8) := (blk_cell BK174.out 8).trans rfl; have hfz11_0 := blk_frozen BK174.out 0; have hfz11_1 := blk_frozen BK174.out 1; have hfz11_2 := blk_frozen BK174.out 2; have hfz11_3 := blk_frozen BK174.out 3; have hfz11_4 := blk_frozen BK174.out 4; have hfz11_5 := blk_frozen BK174.out 5; have hfz11_6 := blk_frozen BK174.out 6; have hfz11_7 := blk_frozen BK174.out 7; have hfz11_8 := blk_frozen BK174.out 8) | ((with_reducible refine gate_callee (f := 19) rfl ?_); refine goesL_ (some 12) rfl rfl Tryd.func19 (by kernel_rfl) rfl #[.int .u32 a0_0] rfl (by (try simp only [List.map_toArray, List.map_cons, List.map_nil]); first | done | rfl | (simp only [List.length_drop, List.length_take]; rfl)) ?_; (with_reducible refine (weftref1_Format.calls k a0_0 t176 _ (by first | exact HP.out | exact HP.out.on HB.out | exact HP.out.drewN _ | exact (HP.out.on HB.out).drewN _ | (refine HP.out.on ?_; repeat (first | (with_reducible first | exact HB.out | apply below_alloc | apply pw_below_drewN | apply below_drew1) | refine below_set ?_ (Aside0.out (by assumption)) | exact HB.out | exact Below.refl _ _))) A3.out).mono ?_); rintro e w12 ⟨rfl, hb⟩; refine ⟨_, rfl, ?_⟩; have n0_ := Aside0.mk (blk_below (g := gb174) (o := .cells #[.int .u32 a0_0, .int .u32 a0_1, .int .i64 a0_2, .int .u8 a0_3, .int .u8 a0_4, .int .u8 a0_5, .int .u8 a0_6, .int .u8 a0_7, .int .u8 a0_8] 35 (0, 0)) (by (with_reducible repeat (first | refine blk_drewN ?_ _ | refine blk_drew ?_ | refine blk_alloc ?_ _)); exact BK174.out) hb); have n1_ := Aside0.mk (below_step (by repeat (first | (with_reducible first | exact HB.out | apply below_alloc | apply pw_below_drewN | apply below_drew1 | refine below_set ?_ GE174.out) | exact HB.out)) hb); clear BK174; clear HB; have BK174 := n0_; have HB := n1_; clear n0_ n1_; (try clear hb); (try clear hb2); (try clear hk); (try clear hi); have hcz13_0 : w12.cell? ⟨gb174, 0, none⟩ = some (.int .u32 a0_0) := (blk_cell BK174.out 0).trans rfl; have hcz13_1 : w12.cell? ⟨gb174, 1, none⟩ = some (.int .u32 a0_1) := (blk_cell BK174.out 1).trans rfl; have hcz13_2 : w12.cell? ⟨gb174, 2, none⟩ = some (.int .i64 a0_2) := (blk_cell BK174.out 2).trans rfl; have hcz13_3 : w12.cell? ⟨gb174, 3, none⟩ = some (.int .u8 a0_3) := (blk_cell BK174.out 3).trans rfl; have hcz13_4 : w12.cell? ⟨gb174, 4, none⟩ = some (.int .u8 a0_4) := (blk_cell BK174.out 4).trans rfl; have hcz13_5 : w12.cell? ⟨gb174, 5, none⟩ = some (.int .u8 a0_5) := (blk_cell BK174.out 5).trans rfl; have hcz13_6 : w12.cell? ⟨gb174, 6, none⟩ = some (.int .u8 a0_6) := (blk_cell BK174.out 6).trans rfl; have hcz13_7 : w12.cell? ⟨gb174, 7, none⟩ = some (.int .u8 a0_7) := (blk_cell BK174.out 7).trans rfl; have hcz13_8 : w12.cell? ⟨gb174, 8, none⟩ = some (.int .u8 a0_8) := (blk_cell BK174.out 8).trans rfl; have hfz13_0 := blk_frozen BK174.out 0; have hfz13_1 := blk_frozen BK174.out 1; have hfz13_2 := blk_frozen BK174.out 2; have hfz13_3 := blk_frozen BK174.out 3; have hfz13_4 := blk_frozen BK174.out 4; have hfz13_5 := blk_frozen BK174.out 5; have hfz13_6 := blk_frozen BK174.out 6; have hfz13_7 := blk_frozen BK174.out 7; have hfz13_8 := blk_frozen BK174.out 8) | ((with_reducible refine gate_callee (f := 20) rfl ?_); refine goesL_ (some 19) rfl rfl Tryd.func20 (by kernel_rfl) rfl #[.agg #[.int .u32 a0_1, .int .i64 a0_2]] rfl (by (try simp only [List.map_toArray, List.map_cons, List.map_nil]); first | done | rfl | (simp only [List.length_drop, List.length_take]; rfl)) ?_; (with_reducible refine (addr_FormatPrefix.calls k a0_1 a0_2 t177 t178 _ A5.out).mono ?_); rintro e w14 ⟨rfl, hb⟩; refine ⟨_, rfl, ?_⟩; have n0_ := Aside0.mk (blk_below (g := gb174) (o := .cells #[.int .u32 a0_0, .int .u32 a0_1, .int .i64 a0_2, .int .u8 a0_3, .int .u8 a0_4, .int .u8 a0_5, .int .u8 a0_6, .int .u8 a0_7, .int .u8 a0_8] 35 (0, 0)) (by (with_reducible repeat (first | refine blk_drewN ?_ _ | refine blk_drew ?_ | refine blk_alloc ?_ _)); exact BK174.out) hb); have n1_ := Aside0.mk (below_step (by repeat (first | (with_reducible first | exact HB.out | apply below_alloc | apply pw_below_drewN | apply below_drew1 | refine below_set ?_ GE174.out) | exact HB.out)) hb); clear BK174; clear HB; have BK174 := n0_; have HB := n1_; clear n0_ n1_; (try clear hb); (try clear hb2); (try clear hk); (try clear hi); have hcz15_0 : w14.cell? ⟨gb174, 0, none⟩ = some (.int .u32 a0_0) := (blk_cell BK174.out 0).trans rfl; have hcz15_1 : w14.cell? ⟨gb174, 1, none⟩ = some (.int .u32 a0_1) := (blk_cell BK174.out 1).trans rfl; have hcz15_2 : w14.cell? ⟨gb174, 2, none⟩ = some (.int .i64 a0_2) := (blk_cell BK174.out 2).trans rfl; have hcz15_3 : w14.cell? ⟨gb174, 3, none⟩ = some (.int .u8 a0_3) := (blk_cell BK174.out 3).trans rfl; have hcz15_4 : w14.cell? ⟨gb174, 4, none⟩ = some (.int .u8 a0_4) := (blk_cell BK174.out 4).trans rfl; have hcz15_5 : w14.cell? ⟨gb174, 5, none⟩ = some (.int .u8 a0_5) := (blk_cell BK174.out 5).trans rfl; have hcz15_6 : w14.cell? ⟨gb174, 6, none⟩ = some (.int .u8 a0_6) := (blk_cell BK174.out 6).trans rfl; have hcz15_7 : w14.cell? ⟨gb174, 7, none⟩ = some (.int .u8 a0_7) := (blk_cell BK174.out 7).trans rfl; have hcz15_8 : w14.cell? ⟨gb174, 8, none⟩ = some (.int .u8 a0_8) := (blk_cell BK174.out 8).trans rfl; have hfz15_0 := blk_frozen BK174.out 0; have hfz15_1 := blk_frozen BK174.out 1; have hfz15_2 := blk_frozen BK174.out 2; have hfz15_3 := blk_frozen BK174.out 3; have hfz15_4 := blk_frozen BK174.out 4; have hfz15_5 := blk_frozen BK174.out 5; have hfz15_6 := blk_frozen BK174.out 6; have hfz15_7 := blk_frozen BK174.out 7; have hfz15_8 := blk_frozen BK174.out 8) | ((with_reducible refine gate_callee (f := 21) rfl ?_); refine goesL_ (some 25) rfl rfl Tryd.func21 (by kernel_rfl) rfl #[.agg #[.int .u32 a0_1, .int .i64 a0_2]] rfl (by (try simp only [List.map_toArray, List.map_cons, List.map_nil]); first | done | rfl | (simp only [List.length_drop, List.length_take]; rfl)) ?_; (with_reducible refine (weftref1_FormatPrefix.calls k a0_1 a0_2 t179 t180 _ (by first | exact HP.out | exact HP.out.on HB.out | exact HP.out.drewN _ | exact (HP.out.on HB.out).drewN _ | (refine HP.out.on ?_; repeat (first | (with_reducible first | exact HB.out | apply below_alloc | apply pw_below_drewN | apply below_drew1) | refine below_set ?_ (Aside0.out (by assumption)) | exact HB.out | exact Below.refl _ _))) A6.out).mono ?_); rintro e w16 ⟨rfl, hb⟩; refine ⟨_, rfl, ?_⟩; have n0_ := Aside0.mk (blk_below (g := gb174) (o := .cells #[.int .u32 a0_0, .int .u32 a0_1, .int .i64 a0_2, .int .u8 a0_3, .int .u8 a0_4, .int .u8 a0_5, .int .u8 a0_6, .int .u8 a0_7, .int .u8 a0_8] 35 (0, 0)) (by (with_reducible repeat (first | refine blk_drewN ?_ _ | refine blk_drew ?_ | refine blk_alloc ?_ _)); exact BK174.out) hb); have n1_ := Aside0.mk (below_step (by repeat (first | (with_reducible first | exact HB.out | apply below_alloc | apply pw_below_drewN | apply below_drew1 | refine below_set ?_ GE174.out) | exact HB.out)) hb); clear BK174; clear HB; have BK174 := n0_; have HB := n1_; clear n0_ n1_; (try clear hb); (try clear hb2); (try clear hk); (try clear hi)))
    (try simp only [Act.put, List.setIfInBounds_toArray, List.set_cons_zero, List.set_cons_succ])
    go_cut [35] (fun v35 wc => ∃ (kq : Nat) (x35_6 : Bool), v35 = .bool x35_6 ∧ Aside0 (weftlaw1_formats.j0 kq x35_6 a0_0 a0_1 a0_2 a0_3 a0_4 a0_5 a0_6 a0_7 a0_8 = some r) ∧ Aside0 (kq ≤ k) ∧ Aside0 (wc.heap[gb174]? = some (.cells #[.int .u32 a0_0, .int .u32 a0_1, .int .i64 a0_2, .int .u8 a0_3, .int .u8 a0_4, .int .u8 a0_5, .int .u8 a0_6, .int .u8 a0_7, .int .u8 a0_8] 35 (0, 0))) ∧ Aside0 (Below w.heap.size w wc))
    case first =>
      have H := HC7.out
      clear HC7
      by_cases c17 : t177.toList = t179.toList
      · rw [if_pos c17] at H
        have c17b0 : (t177.toList == t179.toList) = true := beq_iff_eq.mpr c17
        have c17b1 : (t177.toList != t179.toList) = false := bne_eq_false_iff_eq.mpr c17
        clear c17
        (first | rw [c17b0] | (simp only [i64_w, i32_w]; rw [c17b0]) | skip)
        have H' := Aside0.mk H
        clear H
        go_wp2
        go_meet
        case rel => exact ⟨_, ((t178 != t180)), (by first | rfl | (simp; done) | (simp [*]; done)), H', ⟨by first | omega | exact Nat.le_refl _⟩, ⟨by (with_reducible repeat (first | refine blk_drewN ?_ _ | refine blk_drew ?_ | refine blk_alloc ?_ _)); exact BK174.out⟩, ⟨by repeat (first | (with_reducible first | exact HB.out | apply below_alloc | apply pw_below_drewN | apply below_drew1 | refine below_set ?_ GE174.out) | exact HB.out)⟩⟩
      · rw [if_neg c17] at H
        have c17b0 : (t177.toList == t179.toList) = false := beq_eq_false_iff_ne.mpr c17
        have c17b1 : (t177.toList != t179.toList) = true := bne_iff_ne.mpr c17
        (first | rw [c17b0] | (simp only [i64_w, i32_w]; rw [c17b0]) | skip)
        have H' := Aside0.mk H
        clear H
        go_wp2
        go_meet
        case rel => exact ⟨_, (true), (by first | rfl | (simp; done) | (simp [*]; done)), H', ⟨by first | omega | exact Nat.le_refl _⟩, ⟨by (with_reducible repeat (first | refine blk_drewN ?_ _ | refine blk_drew ?_ | refine blk_alloc ?_ _)); exact BK174.out⟩, ⟨by repeat (first | (with_reducible first | exact HB.out | apply below_alloc | apply pw_below_drewN | apply below_drew1 | refine below_set ?_ GE174.out) | exact HB.out)⟩⟩
    case rest =>
      clear HC7
      try clear c1
      try clear c2
      try clear p2
      try clear c4
      try clear c4b0
      try clear c4b1
      try clear c8
      try clear c17
      try clear c17b0
      try clear c17b1
      try clear hcz11_0
      try clear hcz11_1
      try clear hcz11_2
      try clear hcz11_3
      try clear hcz11_4
      try clear hcz11_5
      try clear hcz11_6
      try clear hcz11_7
      try clear hcz11_8
      try clear hcz13_0
      try clear hcz13_1
      try clear hcz13_2
      try clear hcz13_3
      try clear hcz13_4
      try clear hcz13_5
      try clear hcz13_6
      try clear hcz13_7
      try clear hcz13_8
      try clear hcz15_0
      try clear hcz15_1
      try clear hcz15_2
      try clear hcz15_3
      try clear hcz15_4
      try clear hcz15_5
      try clear hcz15_6
      try clear hcz15_7
      try clear hcz15_8
      try clear hcz9_0
      try clear hcz9_1
      try clear hcz9_2
      try clear hcz9_3
      try clear hcz9_4
      try clear hcz9_5
      try clear hcz9_6
      try clear hcz9_7
      try clear hcz9_8
      try clear hfz11_0
      try clear hfz11_1
      try clear hfz11_2
      try clear hfz11_3
      try clear hfz11_4
      try clear hfz11_5
      try clear hfz11_6
      try clear hfz11_7
      try clear hfz11_8
      try clear hfz13_0
      try clear hfz13_1
      try clear hfz13_2
      try clear hfz13_3
      try clear hfz13_4
      try clear hfz13_5
      try clear hfz13_6
      try clear hfz13_7
      try clear hfz13_8
      try clear hfz15_0
      try clear hfz15_1
      try clear hfz15_2
      try clear hfz15_3
      try clear hfz15_4
      try clear hfz15_5
      try clear hfz15_6
      try clear hfz15_7
      try clear hfz15_8
      try clear hfz9_0
      try clear hfz9_1
      try clear hfz9_2
      try clear hfz9_3
      try clear hfz9_4
      try clear hfz9_5
      try clear hfz9_6
      try clear hfz9_7
      try clear hfz9_8
      obtain ⟨kq, x35_6, rfl, HA, HJ6, BK174, HB⟩ := hcut
      cases kq with
      | zero => exact absurd HA.out (by simp [weftlaw1_formats.j0])
      | succ kj6 =>
        have H := HA.out
        clear HA
        simp only [weftlaw1_formats.j0] at H
        by_cases c18 : x35_6 = true
        · subst c18
          have H1 : (some false) = some r := by rw [if_pos rfl] at H; exact H
          clear H
          have H := H1
          clear H1
          obtain rfl := Option.some.inj H
          go_wp2
          go_ret
          exact ⟨by first | rfl | (simp [errW_none, errW_some] <;> rfl) | (simp [*, errW_none, errW_some] <;> rfl), by repeat (first | (with_reducible first | exact HB.out | apply below_alloc | apply pw_below_drewN | apply below_drew1 | refine below_set ?_ GE174.out) | exact HB.out)⟩
        · replace c18 := Bool.eq_false_iff.mpr c18
          subst c18
          have H1 : ((addr_FormatMAC.f a0_3 a0_4 a0_5 a0_6 a0_7 a0_8).bind fun t181 => ((weftref1_FormatMAC.f a0_3 a0_4 a0_5 a0_6 a0_7 a0_8).bind fun t182 => (some (t181.toList == t182.toList)))) = some r := by rw [if_neg (show ¬ (false = true) by decide)] at H; exact H
          clear H
          have H := H1
          clear H1
          replace H := Option.bind_eq_some_iff.mp H
          obtain ⟨t181, A190, H⟩ := H
          replace H : ((weftref1_FormatMAC.f a0_3 a0_4 a0_5 a0_6 a0_7 a0_8).bind fun t182 => (some (t181.toList == t182.toList))) = some r := H
          have A19 := Aside0.mk A190
          clear A190
          replace H := Option.bind_eq_some_iff.mp H
          obtain ⟨t182, A200, H⟩ := H
          replace H : (some (t181.toList == t182.toList)) = some r := H
          have A20 := Aside0.mk A200
          clear A200
          obtain rfl := Option.some.inj H
          have hcz21_0 : wc.cell? ⟨gb174, 0, none⟩ = some (.int .u32 a0_0) := (blk_cell BK174.out 0).trans rfl
          have hcz21_1 : wc.cell? ⟨gb174, 1, none⟩ = some (.int .u32 a0_1) := (blk_cell BK174.out 1).trans rfl
          have hcz21_2 : wc.cell? ⟨gb174, 2, none⟩ = some (.int .i64 a0_2) := (blk_cell BK174.out 2).trans rfl
          have hcz21_3 : wc.cell? ⟨gb174, 3, none⟩ = some (.int .u8 a0_3) := (blk_cell BK174.out 3).trans rfl
          have hcz21_4 : wc.cell? ⟨gb174, 4, none⟩ = some (.int .u8 a0_4) := (blk_cell BK174.out 4).trans rfl
          have hcz21_5 : wc.cell? ⟨gb174, 5, none⟩ = some (.int .u8 a0_5) := (blk_cell BK174.out 5).trans rfl
          have hcz21_6 : wc.cell? ⟨gb174, 6, none⟩ = some (.int .u8 a0_6) := (blk_cell BK174.out 6).trans rfl
          have hcz21_7 : wc.cell? ⟨gb174, 7, none⟩ = some (.int .u8 a0_7) := (blk_cell BK174.out 7).trans rfl
          have hcz21_8 : wc.cell? ⟨gb174, 8, none⟩ = some (.int .u8 a0_8) := (blk_cell BK174.out 8).trans rfl
          have hfz21_0 := blk_frozen BK174.out 0
          have hfz21_1 := blk_frozen BK174.out 1
          have hfz21_2 := blk_frozen BK174.out 2
          have hfz21_3 := blk_frozen BK174.out 3
          have hfz21_4 := blk_frozen BK174.out 4
          have hfz21_5 := blk_frozen BK174.out 5
          have hfz21_6 := blk_frozen BK174.out 6
          have hfz21_7 := blk_frozen BK174.out 7
          have hfz21_8 := blk_frozen BK174.out 8
          go_wp2_with (first | ((with_reducible refine gate_callee (f := 22) rfl ?_); refine goesL_ (some 38) rfl rfl Tryd.func22 (by kernel_rfl) rfl #[.agg #[.int .u8 a0_3, .int .u8 a0_4, .int .u8 a0_5, .int .u8 a0_6, .int .u8 a0_7, .int .u8 a0_8]] rfl (by (try simp only [List.map_toArray, List.map_cons, List.map_nil]); first | done | rfl | (simp only [List.length_drop, List.length_take]; rfl)) ?_; (with_reducible refine (addr_FormatMAC.calls a0_3 a0_4 a0_5 a0_6 a0_7 a0_8 t181 _ A19.out).mono ?_); rintro e w22 ⟨rfl, hb⟩; refine ⟨_, rfl, ?_⟩; have n0_ := Aside0.mk (blk_below (g := gb174) (o := .cells #[.int .u32 a0_0, .int .u32 a0_1, .int .i64 a0_2, .int .u8 a0_3, .int .u8 a0_4, .int .u8 a0_5, .int .u8 a0_6, .int .u8 a0_7, .int .u8 a0_8] 35 (0, 0)) (by (with_reducible repeat (first | refine blk_drewN ?_ _ | refine blk_drew ?_ | refine blk_alloc ?_ _)); exact BK174.out) hb); have n1_ := Aside0.mk (below_step (by repeat (first | (with_reducible first | exact HB.out | apply below_alloc | apply pw_below_drewN | apply below_drew1 | refine below_set ?_ GE174.out) | exact HB.out)) hb); clear BK174; clear HB; have BK174 := n0_; have HB := n1_; clear n0_ n1_; (try clear hb); (try clear hb2); (try clear hk); (try clear hi); have hcz23_0 : w22.cell? ⟨gb174, 0, none⟩ = some (.int .u32 a0_0) := (blk_cell BK174.out 0).trans rfl; have hcz23_1 : w22.cell? ⟨gb174, 1, none⟩ = some (.int .u32 a0_1) := (blk_cell BK174.out 1).trans rfl; have hcz23_2 : w22.cell? ⟨gb174, 2, none⟩ = some (.int .i64 a0_2) := (blk_cell BK174.out 2).trans rfl; have hcz23_3 : w22.cell? ⟨gb174, 3, none⟩ = some (.int .u8 a0_3) := (blk_cell BK174.out 3).trans rfl; have hcz23_4 : w22.cell? ⟨gb174, 4, none⟩ = some (.int .u8 a0_4) := (blk_cell BK174.out 4).trans rfl; have hcz23_5 : w22.cell? ⟨gb174, 5, none⟩ = some (.int .u8 a0_5) := (blk_cell BK174.out 5).trans rfl; have hcz23_6 : w22.cell? ⟨gb174, 6, none⟩ = some (.int .u8 a0_6) := (blk_cell BK174.out 6).trans rfl; have hcz23_7 : w22.cell? ⟨gb174, 7, none⟩ = some (.int .u8 a0_7) := (blk_cell BK174.out 7).trans rfl; have hcz23_8 : w22.cell? ⟨gb174, 8, none⟩ = some (.int .u8 a0_8) := (blk_cell BK174.out 8).trans rfl; have hfz23_0 := blk_frozen BK174.out 0; have hfz23_1 := blk_frozen BK174.out 1; have hfz23_2 := blk_frozen BK174.out 2; have hfz23_3 := blk_frozen BK174.out 3; have hfz23_4 := blk_frozen BK174.out 4; have hfz23_5 := blk_frozen BK174.out 5; have hfz23_6 := blk_frozen BK174.out 6; have hfz23_7 := blk_frozen BK174.out 7; have hfz23_8 := blk_frozen BK174.out 8) | ((with_reducible refine gate_callee (f := 23) rfl ?_); refine goesL_ (some 41) rfl rfl Tryd.func23 (by kernel_rfl) rfl #[.agg #[.int .u8 a0_3, .int .u8 a0_4, .int .u8 a0_5, .int .u8 a0_6, .int .u8 a0_7, .int .u8 a0_8]] rfl (by (try simp only [List.map_toArray, List.map_cons, List.map_nil]); first | done | rfl | (simp only [List.length_drop, List.length_take]; rfl)) ?_; (with_reducible refine (weftref1_FormatMAC.calls a0_3 a0_4 a0_5 a0_6 a0_7 a0_8 t182 _ A20.out).mono ?_); rintro e w24 ⟨rfl, hb⟩; refine ⟨_, rfl, ?_⟩; have n0_ := Aside0.mk (blk_below (g := gb174) (o := .cells #[.int .u32 a0_0, .int .u32 a0_1, .int .i64 a0_2, .int .u8 a0_3, .int .u8 a0_4, .int .u8 a0_5, .int .u8 a0_6, .int .u8 a0_7, .int .u8 a0_8] 35 (0, 0)) (by (with_reducible repeat (first | refine blk_drewN ?_ _ | refine blk_drew ?_ | refine blk_alloc ?_ _)); exact BK174.out) hb); have n1_ := Aside0.mk (below_step (by repeat (first | (with_reducible first | exact HB.out | apply below_alloc | apply pw_below_drewN | apply below_drew1 | refine below_set ?_ GE174.out) | exact HB.out)) hb); clear BK174; clear HB; have BK174 := n0_; have HB := n1_; clear n0_ n1_; (try clear hb); (try clear hb2); (try clear hk); (try clear hi)))
          go_ret
          exact ⟨by first | rfl | (simp [errW_none, errW_some] <;> rfl) | (simp [*, errW_none, errW_some] <;> rfl), by repeat (first | (with_reducible first | exact HB.out | apply below_alloc | apply pw_below_drewN | apply below_drew1 | refine below_set ?_ GE174.out) | exact HB.out)⟩
  · rw [if_neg c4] at H
    have c4b0 : (t175.toList == t176.toList) = false := beq_eq_false_iff_ne.mpr c4
    have c4b1 : (t175.toList != t176.toList) = true := bne_iff_ne.mpr c4
    obtain rfl := Option.some.inj H
    go_enter Tryd.func8, Tryd.ntmps8
    go_wp2_with (first | ((with_reducible refine gate_dst (N := 1) rfl ?_); refine box_event ?hg (N := 1) ?hd (cs := #[.int .u32 a0_0, .int .u32 a0_1, .int .i64 a0_2, .int .u8 a0_3, .int .u8 a0_4, .int .u8 a0_5, .int .u8 a0_6, .int .u8 a0_7, .int .u8 a0_8]) (t := 35) ?hr ?_; (case hd => rfl); (case hg => rfl); (case hr => first | (go_simp; done) | (go_simp; rfl)); intro gb174 hg w25 hbox hb; have n0_ := Aside0.mk (below_step (by repeat (first | (with_reducible first | exact HB.out | apply below_alloc | apply pw_below_drewN | apply below_drew1) | exact HB.out)) hb); have n1_ := Aside0.mk (hbox); have n2_ := Aside0.mk ((by rw [hg]; exact (below_size (by repeat (first | (with_reducible first | exact HB.out | apply below_alloc | apply pw_below_drewN | apply below_drew1) | exact HB.out))) : w.heap.size ≤ gb174)); have n3_ := Aside0.mk ((by rw [hg]; exact (below_size (by repeat (first | (with_reducible first | exact HB.out | apply below_alloc | apply pw_below_drewN | apply below_drew1) | exact HB.out))) : w.heap.size ≤ gb174)); clear HB; have HB := n0_; have BK174 := n1_; have GW174 := n2_; have GE174 := n3_; clear n0_ n1_ n2_ n3_; clear hb hbox hg; have hcz26_0 : w25.cell? ⟨gb174, 0, none⟩ = some (.int .u32 a0_0) := (blk_cell BK174.out 0).trans rfl; have hcz26_1 : w25.cell? ⟨gb174, 1, none⟩ = some (.int .u32 a0_1) := (blk_cell BK174.out 1).trans rfl; have hcz26_2 : w25.cell? ⟨gb174, 2, none⟩ = some (.int .i64 a0_2) := (blk_cell BK174.out 2).trans rfl; have hcz26_3 : w25.cell? ⟨gb174, 3, none⟩ = some (.int .u8 a0_3) := (blk_cell BK174.out 3).trans rfl; have hcz26_4 : w25.cell? ⟨gb174, 4, none⟩ = some (.int .u8 a0_4) := (blk_cell BK174.out 4).trans rfl; have hcz26_5 : w25.cell? ⟨gb174, 5, none⟩ = some (.int .u8 a0_5) := (blk_cell BK174.out 5).trans rfl; have hcz26_6 : w25.cell? ⟨gb174, 6, none⟩ = some (.int .u8 a0_6) := (blk_cell BK174.out 6).trans rfl; have hcz26_7 : w25.cell? ⟨gb174, 7, none⟩ = some (.int .u8 a0_7) := (blk_cell BK174.out 7).trans rfl; have hcz26_8 : w25.cell? ⟨gb174, 8, none⟩ = some (.int .u8 a0_8) := (blk_cell BK174.out 8).trans rfl; have hfz26_0 := blk_frozen BK174.out 0; have hfz26_1 := blk_frozen BK174.out 1; have hfz26_2 := blk_frozen BK174.out 2; have hfz26_3 := blk_frozen BK174.out 3; have hfz26_4 := blk_frozen BK174.out 4; have hfz26_5 := blk_frozen BK174.out 5; have hfz26_6 := blk_frozen BK174.out 6; have hfz26_7 := blk_frozen BK174.out 7; have hfz26_8 := blk_frozen BK174.out 8) | ((with_reducible refine gate_callee (f := 18) rfl ?_); refine goesL_ (some 9) rfl rfl Tryd.func18 (by kernel_rfl) rfl #[.int .u32 a0_0] rfl (by (try simp only [List.map_toArray, List.map_cons, List.map_nil]); first | done | rfl | (simp only [List.length_drop, List.length_take]; rfl)) ?_; (with_reducible refine (addr_Format.calls k a0_0 t175 _ A2.out).mono ?_); rintro e w27 ⟨rfl, hb⟩; refine ⟨_, rfl, ?_⟩; have n0_ := Aside0.mk (blk_below (g := gb174) (o := .cells #[.int .u32 a0_0, .int .u32 a0_1, .int .i64 a0_2, .int .u8 a0_3, .int .u8 a0_4, .int .u8 a0_5, .int .u8 a0_6, .int .u8 a0_7, .int .u8 a0_8] 35 (0, 0)) (by (with_reducible repeat (first | refine blk_drewN ?_ _ | refine blk_drew ?_ | refine blk_alloc ?_ _)); exact BK174.out) hb); have n1_ := Aside0.mk (below_step (by repeat (first | (with_reducible first | exact HB.out | apply below_alloc | apply pw_below_drewN | apply below_drew1 | refine below_set ?_ GE174.out) | exact HB.out)) hb); clear BK174; clear HB; have BK174 := n0_; have HB := n1_; clear n0_ n1_; (try clear hb); (try clear hb2); (try clear hk); (try clear hi); have hcz28_0 : w27.cell? ⟨gb174, 0, none⟩ = some (.int .u32 a0_0) := (blk_cell BK174.out 0).trans rfl; have hcz28_1 : w27.cell? ⟨gb174, 1, none⟩ = some (.int .u32 a0_1) := (blk_cell BK174.out 1).trans rfl; have hcz28_2 : w27.cell? ⟨gb174, 2, none⟩ = some (.int .i64 a0_2) := (blk_cell BK174.out 2).trans rfl; have hcz28_3 : w27.cell? ⟨gb174, 3, none⟩ = some (.int .u8 a0_3) := (blk_cell BK174.out 3).trans rfl; have hcz28_4 : w27.cell? ⟨gb174, 4, none⟩ = some (.int .u8 a0_4) := (blk_cell BK174.out 4).trans rfl; have hcz28_5 : w27.cell? ⟨gb174, 5, none⟩ = some (.int .u8 a0_5) := (blk_cell BK174.out 5).trans rfl; have hcz28_6 : w27.cell? ⟨gb174, 6, none⟩ = some (.int .u8 a0_6) := (blk_cell BK174.out 6).trans rfl; have hcz28_7 : w27.cell? ⟨gb174, 7, none⟩ = some (.int .u8 a0_7) := (blk_cell BK174.out 7).trans rfl; have hcz28_8 : w27.cell? ⟨gb174, 8, none⟩ = some (.int .u8 a0_8) := (blk_cell BK174.out 8).trans rfl; have hfz28_0 := blk_frozen BK174.out 0; have hfz28_1 := blk_frozen BK174.out 1; have hfz28_2 := blk_frozen BK174.out 2; have hfz28_3 := blk_frozen BK174.out 3; have hfz28_4 := blk_frozen BK174.out 4; have hfz28_5 := blk_frozen BK174.out 5; have hfz28_6 := blk_frozen BK174.out 6; have hfz28_7 := blk_frozen BK174.out 7; have hfz28_8 := blk_frozen BK174.out 8) | ((with_reducible refine gate_callee (f := 19) rfl ?_); refine goesL_ (some 12) rfl rfl Tryd.func19 (by kernel_rfl) rfl #[.int .u32 a0_0] rfl (by (try simp only [List.map_toArray, List.map_cons, List.map_nil]); first | done | rfl | (simp only [List.length_drop, List.length_take]; rfl)) ?_; (with_reducible refine (weftref1_Format.calls k a0_0 t176 _ (by first | exact HP.out | exact HP.out.on HB.out | exact HP.out.drewN _ | exact (HP.out.on HB.out).drewN _ | (refine HP.out.on ?_; repeat (first | (with_reducible first | exact HB.out | apply below_alloc | apply pw_below_drewN | apply below_drew1) | refine below_set ?_ (Aside0.out (by assumption)) | exact HB.out | exact Below.refl _ _))) A3.out).mono ?_); rintro e w29 ⟨rfl, hb⟩; refine ⟨_, rfl, ?_⟩; have n0_ := Aside0.mk (blk_below (g := gb174) (o := .cells #[.int .u32 a0_0, .int .u32 a0_1, .int .i64 a0_2, .int .u8 a0_3, .int .u8 a0_4, .int .u8 a0_5, .int .u8 a0_6, .int .u8 a0_7, .int .u8 a0_8] 35 (0, 0)) (by (with_reducible repeat (first | refine blk_drewN ?_ _ | refine blk_drew ?_ | refine blk_alloc ?_ _)); exact BK174.out) hb); have n1_ := Aside0.mk (below_step (by repeat (first | (with_reducible first | exact HB.out | apply below_alloc | apply pw_below_drewN | apply below_drew1 | refine below_set ?_ GE174.out) | exact HB.out)) hb); clear BK174; clear HB; have BK174 := n0_; have HB := n1_; clear n0_ n1_; (try clear hb); (try clear hb2); (try clear hk); (try clear hi)))
    go_ret
    exact ⟨by first | rfl | (simp [errW_none, errW_some] <;> rfl) | (simp [*, errW_none, errW_some] <;> rfl), by repeat (first | (with_reducible first | exact HB.out | apply below_alloc | apply pw_below_drewN | apply below_drew1 | refine below_set ?_ GE174.out) | exact HB.out)⟩

end Go.Proofs.YtncpcjphljfcpaaDoor.PScr
