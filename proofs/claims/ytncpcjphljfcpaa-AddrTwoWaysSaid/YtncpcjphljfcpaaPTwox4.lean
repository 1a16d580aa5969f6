-- written by xp.sh, a program of this seat's session
import Derived.Test.YtncpcjphljfcpaaPTwox0
namespace Go.Proofs.Ytncpcjphljfcpaa.PTwo
open Go.RowKit Go.Proofs.YtncpcjphljfcpaaW.PrintWords Go.Proofs.YtncpcjphljfcpaaW.PrintLast Go.Proofs.YtncpcjphljfcpaaW.PrintMore
attribute [local go_sem] max2_int min2_int max_two min_two max_three min_three max_four min_four   -- for this text's walks alone
set_option linter.unusedVariables false
set_option linter.unusedSimpArgs false

/-! ### addr_FormatMAC: function 17 -/
def hexs : ByteArray := ⟨#[48, 49, 50, 51, 52, 53, 54, 55, 56, 57, 97, 98, 99, 100, 101, 102]⟩
def macByte (M : Nat → Int) (j : Nat) : Int := if j % 3 = 0 then bt hexs (M (j / 3) / 16) else if j % 3 = 1 then bt hexs (M (j / 3) % 16) else 58
def MacRow (M : Nat → Int) (i : Nat) (cs : Array Value) : Prop := cs.size = 17 ∧ ∀ j, j < 3 * i → j < 17 → cs[j]? = some (.int .u8 (macByte M j))
theorem macByte_0 (M : Nat → Int) (i : Nat) : macByte M (3 * i) = bt hexs (M i / 16) := by
  unfold macByte
  rw [if_pos (by omega), show 3 * i / 3 = i from by omega]
theorem macByte_1 (M : Nat → Int) (i : Nat) : macByte M (3 * i + 1) = bt hexs (M i % 16) := by
  unfold macByte
  rw [if_neg (by omega), if_pos (by omega), show (3 * i + 1) / 3 = i from by omega]
theorem macByte_2 (M : Nat → Int) (i : Nat) : macByte M (3 * i + 2) = 58 := by
  unfold macByte
  rw [if_neg (by omega), if_neg (by omega)]
theorem macRow_2 {M : Nat → Int} {i : Nat} {cs : Array Value} (h : MacRow M i cs) (hi : i < 6) (j : Nat) (hj : j < 3 * i + 2) (hj' : j < 17) :
    ((cs.setIfInBounds (3 * i) (.int .u8 (bt hexs (M i / 16)))).setIfInBounds (3 * i + 1) (.int .u8 (bt hexs (M i % 16))))[j]? = some (.int .u8 (macByte M j)) := by
  obtain ⟨hs, hc⟩ := h
  simp only [Array.getElem?_setIfInBounds, Array.size_setIfInBounds]
  by_cases h1 : 3 * i + 1 = j
  · rw [if_pos h1, if_pos (by omega), ← h1, macByte_1]
  · rw [if_neg h1]
    by_cases h0 : 3 * i = j
    · rw [if_pos h0, if_pos (by omega), ← h0, macByte_0]
    · rw [if_neg h0]; exact hc j (by omega) hj'
theorem macRow_five {M : Nat → Int} {i : Nat} {cs : Array Value} (h : MacRow M i cs) (hi : i < 6) (h5 : ¬ i < 5) :
    MacRow M (i + 1) ((cs.setIfInBounds (3 * i) (.int .u8 (bt hexs (M i / 16)))).setIfInBounds (3 * i + 1) (.int .u8 (bt hexs (M i % 16)))) :=
  ⟨by simp [h.1], fun j _ hj' => macRow_2 h hi j (by omega) hj'⟩
theorem macRow_step {M : Nat → Int} {i : Nat} {cs : Array Value} (h : MacRow M i cs) (h5 : i < 5) :
    MacRow M (i + 1) (((cs.setIfInBounds (3 * i) (.int .u8 (bt hexs (M i / 16)))).setIfInBounds (3 * i + 1) (.int .u8 (bt hexs (M i % 16)))).setIfInBounds (3 * i + 2) (.int .u8 58)) := by
  refine ⟨by simp [h.1], fun j hj hj' => ?_⟩
  rw [Array.getElem?_setIfInBounds]
  by_cases h2 : 3 * i + 2 = j
  · rw [if_pos h2, if_pos (by simp [h.1]; omega), ← h2, macByte_2]
  · rw [if_neg h2]; exact macRow_2 h (by omega) j (by omega) hj'
theorem blk_new2 (w : World) (X Y : Obj) : ((w.alloc X).alloc Y).heap[w.heap.size + 1]? = some Y := by
  have h := blk_new (w.alloc X) Y
  have e : (w.alloc X).heap.size = w.heap.size + 1 := by simp
  rw [e] at h; exact h
theorem cell_blk {w : World} {b j t : Nat} {cs : Array Value} (h : w.heap[b]? = some (.cells cs t (0, 0))) (hj : j < cs.size) : w.cell? ⟨b, j, none⟩ = some cs[j] ∧ w.frozen? ⟨b, j, none⟩ = false := by
  unfold World.cell? World.frozen?
  rw [h]
  simp [hj]
/-- six numbers as a function of their places -/
def macFn (a0 a1 a2 a3 a4 a5 : Int) : Nat → Int
  | 0 => a0
  | 1 => a1
  | 2 => a2
  | 3 => a3
  | 4 => a4
  | _ => a5
def byteIn (a : Int) : Prop := 0 ≤ a ∧ a < 256
instance (a : Int) : Decidable (byteIn a) := inferInstanceAs (Decidable (_ ∧ _))
def addr_FormatMAC.f (a0_0 a0_1 a0_2 a0_3 a0_4 a0_5 : Int) : Option ByteArray :=
  if byteIn a0_0 ∧ byteIn a0_1 ∧ byteIn a0_2 ∧ byteIn a0_3 ∧ byteIn a0_4 ∧ byteIn a0_5 then some (strOfNums ((List.range 17).map (macByte (macFn a0_0 a0_1 a0_2 a0_3 a0_4 a0_5)))) else none
set_option maxHeartbeats 4000000 in
set_option maxRecDepth 100000 in
theorem formatMAC_walk (M : Nat → Int) (w : World) (hM : ∀ i, 0 ≤ M i ∧ M i < 256) :
    Calls Try.prog 17 #[.agg #[.int .u8 (M 0), .int .u8 (M 1), .int .u8 (M 2), .int .u8 (M 3), .int .u8 (M 4), .int .u8 (M 5)]] w fun e w' => e = .returned (.string (strOfNums ((List.range 17).map (macByte M)))) ∧ Below w.heap.size w w' := by
  have HM := Aside0.mk hM
  clear hM
  go_enter Try.func17, Try.ntmps17
  go_wp2
  go_loopw [5] (fun v5 wr => ∃ (i : Nat) (cs : Array Value), v5 = .int .i64 i ∧ i ≤ 6 ∧ wr.heap[w.heap.size]? = some (.cells #[.int .u8 (M 0), .int .u8 (M 1), .int .u8 (M 2), .int .u8 (M 3), .int .u8 (M 4), .int .u8 (M 5)] 36 (0, 0)) ∧
      wr.heap[w.heap.size + 1]? = some (.cells cs 67 (0, 0)) ∧ Aside0 (MacRow M i cs) ∧ Aside0 (Below w.heap.size w wr)) (fun v5 _ => 6 - (intOf v5).toNat)
  case atStart =>
    refine ⟨0, Array.replicate 17 (.int .u8 0), rfl, by omega, ?_, ?_, ⟨by rfl, fun j h => by omega⟩, ⟨((Below.refl _ _).alloc (Nat.le_refl _) _).alloc (by simp) _⟩⟩
    · exact blk_alloc (blk_new _ _) _
    · exact blk_new2 _ _ _
  case round =>
    obtain ⟨i, cs, rfl, hi, hb1, hb3, HR, HB⟩ := hrel
    by_cases hlt : i < 6
    · have hm := HM.out i
      have m0 := hm.1
      have m1 := hm.2
      clear hm
      have hci : wr.cell? ⟨w.heap.size, i, none⟩ = some (.int .u8 (M i)) := by
        unfold World.cell?
        rw [hb1]
        match i, hlt with
        | 0, _ | 1, _ | 2, _ | 3, _ | 4, _ | 5, _ => rfl
      have p0 : 0 ≤ M i / 16 := by omega
      have q0 : M i / 16 < 16 := by omega
      have r0 : 0 ≤ M i % 16 := by omega
      have s0 : M i % 16 < 16 := by omega
      have hx := bt_at ⟨#[48, 49, 50, 51, 52, 53, 54, 55, 56, 57, 97, 98, 99, 100, 101, 102]⟩ (M i / 16)
      have hy := bt_at ⟨#[48, 49, 50, 51, 52, 53, 54, 55, 56, 57, 97, 98, 99, 100, 101, 102]⟩ (M i % 16)
      obtain ⟨ca, fa⟩ := cell_blk (j := 3 * i) hb3 (by have := HR.out.1; omega)
      obtain ⟨cb, fb⟩ := cell_blk (j := 3 * i + 1) hb3 (by have := HR.out.1; omega)
      have HB3 := Aside0.mk hb3
      have HB1 := Aside0.mk hb1
      clear hb1 hb3
      by_cases h5 : i < 5
      · obtain ⟨cc, fc⟩ := cell_blk (j := 3 * i + 2) HB3.out (by have := HR.out.1; omega)
        go_wp2
        go_region
        go_wp2
        go_roundw
        case rel =>
          refine ⟨i + 1, ((cs.setIfInBounds (3 * i) (.int .u8 (bt hexs (M i / 16)))).setIfInBounds (3 * i + 1) (.int .u8 (bt hexs (M i % 16)))).setIfInBounds (3 * i + 2) (.int .u8 58), by go_num, by omega, ?_, ?_, ?_, ?_⟩
          · exact blk_far (blk_far (blk_far HB1.out (by simp) _) (by simp) _) (by simp) _
          · exact blk_set (blk_set (blk_set HB3.out _ _) _ _) _ _
          · exact ⟨macRow_step HR.out h5⟩
          · exact ⟨below_set (below_set (below_set (pw_below_drewN HB.out 1) (by simp)) (by simp)) (by simp)⟩
        case measure => simp [intOf]; omega
      · go_wp2
        go_region
        go_wp2
        go_roundw
        case rel =>
          refine ⟨i + 1, ((cs.setIfInBounds (3 * i) (.int .u8 (bt hexs (M i / 16)))).setIfInBounds (3 * i + 1) (.int .u8 (bt hexs (M i % 16)))), by go_num, by omega, ?_, ?_, ?_, ?_⟩
          · exact (blk_far (blk_far HB1.out (by simp) _) (by simp) _)
          · exact (blk_set (blk_set HB3.out _ _) _ _)
          · exact ⟨macRow_five HR.out hlt h5⟩
          · exact ⟨(below_set (below_set (pw_below_drewN HB.out 1) (by simp)) (by simp))⟩
        case measure => simp [intOf]; omega
    · obtain rfl : i = 6 := by omega
      have hcv := run_convert_bytes_arg (P := Try.prog) wr 68 5 Try.underlying68 Try.underlying5 (w.heap.size + 1) 0 17 17 ((List.range 17).map (macByte M)) rfl (fun j hj => by
        rw [Nat.zero_add, blk_cell hb3, HR.out.2 j (by omega) hj]
        congr 2
        simp [List.getD_eq_getElem?_getD, hj]) 9 Try.underlying9
      clear hb1 hb3
      go_wp2
      go_ret
      exact ⟨rfl, HB.out⟩

theorem addr_FormatMAC.calls (a0_0 a0_1 a0_2 a0_3 a0_4 a0_5 : Int) (r : ByteArray) (w : World) (h : addr_FormatMAC.f a0_0 a0_1 a0_2 a0_3 a0_4 a0_5 = some r) :
    Calls Try.prog 17 #[.agg #[.int .u8 a0_0, .int .u8 a0_1, .int .u8 a0_2, .int .u8 a0_3, .int .u8 a0_4, .int .u8 a0_5]] w fun e w' => e = .returned (.string r) ∧ Below w.heap.size w w' := by
  unfold addr_FormatMAC.f at h
  split at h
  · rename_i hb
    obtain rfl := Option.some.inj h
    refine formatMAC_walk (macFn a0_0 a0_1 a0_2 a0_3 a0_4 a0_5) w (fun i => ?_)
    obtain ⟨h0, h1, h2, h3, h4, h5⟩ := hb
    match i with
    | 0 => exact h0
    | 1 => exact h1
    | 2 => exact h2
    | 3 => exact h3
    | 4 => exact h4
    | _ + 5 => exact h5
  · cases h

/-! ### addr_hex: function 35 -/
mutual
def addr_hex.j0 : Nat → Int → Bool → Option (Int)
  | 0, _, _ => none
  | k + 1, x0, x3 => if x3 = true then (some ((x0 - 48) % 256)) else (if x0 ≥ 97 then (addr_hex.j1 k x0 (decide (x0 ≤ 102))) else (addr_hex.j1 k x0 false))
def addr_hex.j1 : Nat → Int → Bool → Option (Int)
  | 0, _, _ => none
  | k + 1, x0, x13 => if x13 = true then (some (((x0 - 97) % 256) + 10)) else (if x0 ≥ 65 then (if x0 ≤ 70 then (some (((x0 - 65) % 256) + 10)) else (some (-1))) else (some (-1)))
end
def addr_hex.f (k : Nat) (a0 : Int) : Option (Int) := if a0 ≥ 48 then (addr_hex.j0 k a0 (decide (a0 ≤ 57))) else (addr_hex.j0 k a0 false)
theorem addr_hex.mono_l : ∀ k, (∀ y0 y1, LeO (addr_hex.j0 k y0 y1) (addr_hex.j0 (k + 1) y0 y1)) ∧ (∀ y0 y1, LeO (addr_hex.j1 k y0 y1) (addr_hex.j1 (k + 1) y0 y1))
  | 0 => ⟨fun _ _ r h => by simp [addr_hex.j0] at h, fun _ _ r h => by simp [addr_hex.j1] at h⟩
  | k + 1 => by
    obtain ⟨ih0, ih1⟩ := addr_hex.mono_l k
    refine ⟨?_, ?_⟩
    · intro y0 y1
      unfold addr_hex.j0
      repeat' first
      | (with_reducible exact ih0 _ _)
      | (with_reducible exact ih1 _ _)
      | (with_reducible exact LeO.refl _)
      | (with_reducible exact LeO.none _)
      | (with_reducible refine LeO.ite ?_ ?_)
      | (with_reducible refine LeO.bind ?_ (fun _ => ?_))
      | exact ih0 _ _
      | exact ih1 _ _
      | exact LeO.none _
      | refine LeO.ite ?_ ?_
      | refine LeO.bind ?_ (fun _ => ?_)
    · intro y0 y1
      unfold addr_hex.j1
      repeat' first
      | (with_reducible exact ih0 _ _)
      | (with_reducible exact ih1 _ _)
      | (with_reducible exact LeO.refl _)
      | (with_reducible exact LeO.none _)
      | (with_reducible refine LeO.ite ?_ ?_)
      | (with_reducible refine LeO.bind ?_ (fun _ => ?_))
      | exact ih0 _ _
      | exact ih1 _ _
      | exact LeO.none _
      | refine LeO.ite ?_ ?_
      | refine LeO.bind ?_ (fun _ => ?_)
theorem addr_hex.mono : ∀ a0 k, LeO (addr_hex.f k a0) (addr_hex.f (k + 1) a0) := by
  intro a0 k
  obtain ⟨ih0, ih1⟩ := addr_hex.mono_l k
  unfold addr_hex.f
  repeat' first
      | (with_reducible exact ih0 _ _)
      | (with_reducible exact ih1 _ _)
      | (with_reducible exact LeO.refl _)
      | (with_reducible exact LeO.none _)
      | (with_reducible refine LeO.ite ?_ ?_)
      | (with_reducible refine LeO.bind ?_ (fun _ => ?_))
      | exact ih0 _ _
      | exact ih1 _ _
      | exact LeO.none _
      | refine LeO.ite ?_ ?_
      | refine LeO.bind ?_ (fun _ => ?_)
set_option maxHeartbeats 8000000 in
set_option maxRecDepth 100000 in
theorem addr_hex.calls (k : Nat) (a0 : Int) (r : Int) (w : World) (h : addr_hex.f k a0 = some r) :
    Calls Try.prog 35 #[.int .u8 a0] w fun e w' => e = .returned (.int .i64 r) ∧ Drawn0 w w' := by
  have H : (if a0 ≥ 48 then (addr_hex.j0 k a0 (decide (a0 ≤ 57))) else (addr_hex.j0 k a0 false)) = some r := h
  clear h
  have HC2 := Aside0.mk H
  clear H
  go_enter Try.func35, Try.ntmps35
  go_upto_region 1 with (fail)
  go_cut [3] (fun v3 wc => ∃ (kq : Nat) (x3_1 : Bool), v3 = .bool x3_1 ∧ Aside0 (addr_hex.j0 kq a0 x3_1 = some r) ∧ Aside0 (kq ≤ k) ∧ Drawn0 w wc)
  case first =>
    have H := HC2.out
    clear HC2
    by_cases c3 : a0 ≥ 48
    · rw [if_pos c3] at H
      have c3b0 : decide (48 ≤ a0) = true := decide_eq_true c3
      clear c3
      (first | rw [c3b0] | (simp only [i64_w, i32_w]; rw [c3b0]) | skip)
      have H' := Aside0.mk H
      clear H
      go_wp2
      go_meet
      case rel => exact ⟨_, (decide (a0 ≤ 57)), (by first | rfl | (simp; done) | (simp [*]; done)), H', ⟨by first | omega | exact Nat.le_refl _⟩, by repeat (first | exact Drawn0.refl _ | apply Drawn0.step)⟩
    · rw [if_neg c3] at H
      have c3b0 : decide (48 ≤ a0) = false := decide_eq_false c3
      clear c3
      (first | rw [c3b0] | (simp only [i64_w, i32_w]; rw [c3b0]) | skip)
      have H' := Aside0.mk H
      clear H
      go_wp2
      go_meet
      case rel => exact ⟨_, (false), (by first | rfl | (simp; done) | (simp [*]; done)), H', ⟨by first | omega | exact Nat.le_refl _⟩, by repeat (first | exact Drawn0.refl _ | apply Drawn0.step)⟩
  case rest =>
    clear HC2
    try clear p2
    try clear c3
    try clear c3b0
    obtain ⟨kq, x3_1, rfl, HA, HJ1, ⟨mc1, rfl⟩⟩ := hcut
    cases kq with
    | zero => exact absurd HA.out (by simp [addr_hex.j0])
    | succ kj1 =>
      have H := HA.out
      clear HA
      simp only [addr_hex.j0] at H
      by_cases c4 : x3_1 = true
      · subst c4
        have H1 : (some ((a0 - 48) % 256)) = some r := by rw [if_pos rfl] at H; exact H
        clear H
        have H := H1
        clear H1
        obtain rfl := Option.some.inj H
        go_wp2
        go_ret
        exact ⟨by first | rfl | (simp; done) | (simp [*]; done), by repeat (first | exact Drawn0.refl _ | apply Drawn0.step)⟩
      · replace c4 := Bool.eq_false_iff.mpr c4
        subst c4
        have H1 : (if a0 ≥ 97 then (addr_hex.j1 kj1 a0 (decide (a0 ≤ 102))) else (addr_hex.j1 kj1 a0 false)) = some r := by rw [if_neg (show ¬ (false = true) by decide)] at H; exact H
        clear H
        have H := H1
        clear H1
        have HC5 := Aside0.mk H
        clear H
        go_upto_region 3 with (fail)
        go_cut [13] (fun v13 wc => ∃ (kq : Nat) (x13_4 : Bool), v13 = .bool x13_4 ∧ Aside0 (addr_hex.j1 kq a0 x13_4 = some r) ∧ Aside0 (kq ≤ kj1) ∧ Drawn0 w wc)
        case first =>
          have H := HC5.out
          clear HC5
          by_cases c6 : a0 ≥ 97
          · rw [if_pos c6] at H
            have c6b0 : decide (97 ≤ a0) = true := decide_eq_true c6
            clear c6
            (first | rw [c6b0] | (simp only [i64_w, i32_w]; rw [c6b0]) | skip)
            have H' := Aside0.mk H
            clear H
            go_wp2
            go_meet
            case rel => exact ⟨_, (decide (a0 ≤ 102)), (by first | rfl | (simp; done) | (simp [*]; done)), H', ⟨by have := HJ1.out; first | omega | exact Nat.le_refl _⟩, by repeat (first | exact Drawn0.refl _ | apply Drawn0.step)⟩
          · rw [if_neg c6] at H
            have c6b0 : decide (97 ≤ a0) = false := decide_eq_false c6
            clear c6
            (first | rw [c6b0] | (simp only [i64_w, i32_w]; rw [c6b0]) | skip)
            have H' := Aside0.mk H
            clear H
            go_wp2
            go_meet
            case rel => exact ⟨_, (false), (by first | rfl | (simp; done) | (simp [*]; done)), H', ⟨by have := HJ1.out; first | omega | exact Nat.le_refl _⟩, by repeat (first | exact Drawn0.refl _ | apply Drawn0.step)⟩
        case rest =>
          clear HC5
          try clear c1
          try clear p2
          try clear c3
          try clear c3b0
          try clear c4
          try clear c6
          try clear c6b0
          try clear p2
          obtain ⟨kq, x13_4, rfl, HA, HJ4, ⟨mc4, rfl⟩⟩ := hcut
          cases kq with
          | zero => exact absurd HA.out (by simp [addr_hex.j1])
          | succ kj4 =>
            have H := HA.out
            clear HA
            simp only [addr_hex.j1] at H
            by_cases c7 : x13_4 = true
            · subst c7
              have H1 : (some (((a0 - 97) % 256) + 10)) = some r := by rw [if_pos rfl] at H; exact H
              clear H
              have H := H1
              clear H1
              obtain rfl := Option.some.inj H
              go_wp2
              go_ret
              exact ⟨by first | rfl | (simp; done) | (simp [*]; done), by repeat (first | exact Drawn0.refl _ | apply Drawn0.step)⟩
            · replace c7 := Bool.eq_false_iff.mpr c7
              subst c7
              have H1 : (if a0 ≥ 65 then (if a0 ≤ 70 then (some (((a0 - 65) % 256) + 10)) else (some (-1))) else (some (-1))) = some r := by rw [if_neg (show ¬ (false = true) by decide)] at H; exact H
              clear H
              have H := H1
              clear H1
              by_cases c8 : a0 ≥ 65
              · rw [if_pos c8] at H
                have c8b0 : decide (65 ≤ a0) = true := decide_eq_true c8
                clear c8
                by_cases c9 : a0 ≤ 70
                · rw [if_pos c9] at H
                  have c9b0 : decide (a0 ≤ 70) = true := decide_eq_true c9
                  clear c9
                  obtain rfl := Option.some.inj H
                  go_wp2
                  go_ret
                  exact ⟨by first | rfl | (simp; done) | (simp [*]; done), by repeat (first | exact Drawn0.refl _ | apply Drawn0.step)⟩
                · rw [if_neg c9] at H
                  have c9b0 : decide (a0 ≤ 70) = false := decide_eq_false c9
                  clear c9
                  obtain rfl := Option.some.inj H
                  go_wp2
                  go_ret
                  exact ⟨by first | rfl | (simp; done) | (simp [*]; done), by repeat (first | exact Drawn0.refl _ | apply Drawn0.step)⟩
              · rw [if_neg c8] at H
                have c8b0 : decide (65 ≤ a0) = false := decide_eq_false c8
                clear c8
                obtain rfl := Option.some.inj H
                go_wp2
                go_ret
                exact ⟨by first | rfl | (simp; done) | (simp [*]; done), by repeat (first | exact Drawn0.refl _ | apply Drawn0.step)⟩

/-! ### addr_ParseMAC: function 18 -/
/-- what a hexadecimal digit is worth -/
def hexD (c : Int) : Int := if 48 ≤ c ∧ c ≤ 57 then c - 48 else if 97 ≤ c ∧ c ≤ 102 then c - 97 + 10 else if 65 ≤ c ∧ c ≤ 70 then c - 65 + 10 else -1
theorem hexD_range (c : Int) : -1 ≤ hexD c ∧ hexD c ≤ 15 := by
  unfold hexD
  repeat' split
  all_goals omega
theorem hex_f0 : ∀ n : Nat, n < 256 → addr_hex.f 3 (n : Int) = some (hexD n) := by decide +kernel
theorem hex_f (c : Int) (h0 : 0 ≤ c) (h1 : c ≤ 255) : addr_hex.f 3 c = some (hexD c) := by
  obtain ⟨n, rfl⟩ := Int.eq_ofNat_of_zero_le h0
  exact hex_f0 n (by omega)
theorem hex_calls (c : Int) (w : World) (h0 : 0 ≤ c) (h1 : c ≤ 255) : Calls Try.prog 35 #[.int .u8 c] w fun e w' => e = .returned (.int .i64 (hexD c)) ∧ ∃ m, w' = w.drewN m :=
  (addr_hex.calls 3 c _ w (hex_f c h0 h1)).mono fun _ _ ⟨he, hd⟩ => ⟨he, hd.out⟩
def pok (s : ByteArray) (j : Nat) : Prop := 0 ≤ hexD (bt s (3 * j)) ∧ 0 ≤ hexD (bt s (3 * j + 1)) ∧ (j < 5 → bt s (3 * j + 2) = 58)
instance (s : ByteArray) (j : Nat) : Decidable (pok s j) := inferInstanceAs (Decidable (_ ∧ _))
def pv (s : ByteArray) (j : Nat) : Int := (Go.bits .or .i64 (hexD (bt s (3 * j)) * 16) (hexD (bt s (3 * j + 1)))) % 256
def MacGot (s : ByteArray) (i : Nat) (cs : Array Value) : Prop := cs.size = 6 ∧ (∀ j, j < i → cs[j]? = some (.int .u8 (pv s j))) ∧ ∀ j, j < i → pok s j
def macAll (s : ByteArray) : Bool := (List.range 6).all fun j => decide (pok s j)
def macRes (s : ByteArray) : Value := if macAll s = true then .tuple #[.agg #[.int .u8 (pv s 0), .int .u8 (pv s 1), .int .u8 (pv s 2), .int .u8 (pv s 3), .int .u8 (pv s 4), .int .u8 (pv s 5)], .int .i64 0] else .tuple #[.agg #[.int .u8 0, .int .u8 0, .int .u8 0, .int .u8 0, .int .u8 0, .int .u8 0], .int .i64 13]
theorem macStep {s : ByteArray} {w wr : World} {i n : Nat} {cs : Array Value} {zs : Array Value} (hi : i < 6) (h0 : wr.heap[w.heap.size]? = some (.cells zs 36 (0, 0))) (h1 : wr.heap[w.heap.size + 1]? = some (.cells cs 36 (0, 0))) (hr : MacGot s i cs) (hk : pok s i) (hb : Below w.heap.size w wr) :
    ∃ (j : Nat) (cs' : Array Value), Value.int .i64 ((i : Int) + 1) = .int .i64 j ∧ j ≤ 6 ∧
      ((wr.drewN n).setCell ⟨w.heap.size + 1, i, none⟩ (.int .u8 (Go.bits .or .i64 (hexD (bt s (3 * i)) * 16) (hexD (bt s (3 * i + 1))) % 256))).heap[w.heap.size]? = some (.cells zs 36 (0, 0)) ∧
      ((wr.drewN n).setCell ⟨w.heap.size + 1, i, none⟩ (.int .u8 (Go.bits .or .i64 (hexD (bt s (3 * i)) * 16) (hexD (bt s (3 * i + 1))) % 256))).heap[w.heap.size + 1]? = some (.cells cs' 36 (0, 0)) ∧
      Aside0 (MacGot s j cs') ∧ Aside0 (Below w.heap.size w ((wr.drewN n).setCell ⟨w.heap.size + 1, i, none⟩ (.int .u8 (Go.bits .or .i64 (hexD (bt s (3 * i)) * 16) (hexD (bt s (3 * i + 1))) % 256)))) := by
  refine ⟨i + 1, cs.setIfInBounds i (.int .u8 (pv s i)), by simp, by omega, blk_far (blk_drewN h0 n) (by simp) _, blk_set (blk_drewN h1 n) _ _, ⟨by simp [hr.1], fun j hj => ?_, fun j hj => ?_⟩, ⟨below_set (pw_below_drewN hb n) (by simp)⟩⟩
  · rw [Array.getElem?_setIfInBounds]
    by_cases e : i = j
    · rw [if_pos e, if_pos (by have := hr.1; omega), e]
    · rw [if_neg e]; exact hr.2.1 j (by omega)
  · by_cases e : j = i
    · rw [e]; exact hk
    · exact hr.2.2 j (by omega)
theorem macRes_bad {s : ByteArray} {i : Nat} (hi : i < 6) (h : ¬ pok s i) : macRes s = .tuple #[.agg #[.int .u8 0, .int .u8 0, .int .u8 0, .int .u8 0, .int .u8 0, .int .u8 0], .int .i64 13] := by
  unfold macRes
  rw [if_neg]
  intro ha
  have := List.all_eq_true.1 ha i (by simpa using hi)
  exact h (by simpa using this)
theorem macRes_ok {s : ByteArray} (h : ∀ j, j < 6 → pok s j) : macRes s = .tuple #[.agg #[.int .u8 (pv s 0), .int .u8 (pv s 1), .int .u8 (pv s 2), .int .u8 (pv s 3), .int .u8 (pv s 4), .int .u8 (pv s 5)], .int .i64 0] := by
  unfold macRes
  rw [if_pos]
  refine List.all_eq_true.2 fun j hj => ?_
  simpa using h j (by simpa using hj)
set_option maxHeartbeats 4000000 in
set_option maxRecDepth 100000 in
theorem parseMAC_walk (s : ByteArray) (w : World) (hs : s.size = 17) :
    Calls Try.prog 18 #[.string s] w fun e w' => e = .returned (macRes s) ∧ Below w.heap.size w w' := by
  have HS := Aside0.mk hs
  have hs1 : ((s.size : Int) == 17) = true := by simp [hs]
  have hs2 : ((s.size : Int) != 17) = false := by simp [hs]
  clear hs
  go_enter Try.func18, Try.ntmps18
  go_wp2
  clear hs1 hs2
  go_loopw [12] (fun v12 wr => ∃ (i : Nat) (cs : Array Value), v12 = .int .i64 i ∧ i ≤ 6 ∧ wr.heap[w.heap.size]? = some (.cells #[.int .u8 0, .int .u8 0, .int .u8 0, .int .u8 0, .int .u8 0, .int .u8 0] 36 (0, 0)) ∧
      wr.heap[w.heap.size + 1]? = some (.cells cs 36 (0, 0)) ∧ Aside0 (MacGot s i cs) ∧ Aside0 (Below w.heap.size w wr)) (fun v12 _ => 6 - (intOf v12).toNat)
  case atStart =>
    refine ⟨0, #[.int .u8 0, .int .u8 0, .int .u8 0, .int .u8 0, .int .u8 0, .int .u8 0], rfl, by omega, ?_, ?_, ⟨by rfl, fun j h => by omega, fun j h => by omega⟩, ⟨((Below.refl _ _).alloc (Nat.le_refl _) _).alloc (by simp) _⟩⟩
    · exact blk_alloc (blk_new _ _) _
    · exact blk_new2 _ _ _
  case round =>
    obtain ⟨i, cs, rfl, hi, hb0, hb1, HR, HB⟩ := hrel
    by_cases hlt : i < 6
    · have hsz := HS.out
      have b0 := bt_at s (3 * (i : Int))
      have b1 := bt_at s (3 * (i : Int) + 1)
      have b2 := bt_at s (3 * (i : Int) + 2)
      have r0 := bt_range s (3 * (i : Int))
      have r1 := bt_range s (3 * (i : Int) + 1)
      have l0 : 3 * i < s.size := by omega
      have l1 : 3 * i + 1 < s.size := by omega
      have HB0 := Aside0.mk hb0
      have HB1 := Aside0.mk hb1
      clear hb0 hb1 hsz
      go_wp2
      go_quiet ((go_at_call 35; exact Calls.quiet_of (hex_calls _ _ (by omega) (by omega))))
      have g0 := hexD_range (bt s (3 * (i : Int)))
      have g1 := hexD_range (bt s (3 * (i : Int) + 1))
      have l2 : i < 5 → 3 * i + 2 < s.size := by have := HS.out; omega
      by_cases hok : pok s i
      · obtain ⟨k0, k1, k2⟩ := hok
        obtain ⟨ci, fi⟩ := cell_blk (j := i) HB1.out (by have := HR.out.1; omega)
        have HK := Aside0.mk (show pok s i from ⟨k0, k1, k2⟩)
        by_cases h5 : i < 5
        · have l2' := l2 h5
          have k2' : (bt s (3 * (i : Int) + 2) != 58) = false := by simp [k2 h5]
          have k2e : (bt s (3 * (i : Int) + 2) == 58) = true := by simp [k2 h5]
          clear l2 k2
          go_wp2
          go_roundw
          case rel => exact macStep (n := nq) hlt HB0.out HB1.out HR.out HK.out HB.out
          case measure => simp [intOf]; omega
        · clear l2 k2
          go_wp2
          go_roundw
          case rel => exact macStep (n := nq) hlt HB0.out HB1.out HR.out HK.out HB.out
          case measure => simp [intOf]; omega
      · obtain ⟨z0, y0⟩ := cell_blk (j := 0) HB0.out (by decide)
        obtain ⟨z1, y1⟩ := cell_blk (j := 1) HB0.out (by decide)
        obtain ⟨z2, y2⟩ := cell_blk (j := 2) HB0.out (by decide)
        obtain ⟨z3, y3⟩ := cell_blk (j := 3) HB0.out (by decide)
        obtain ⟨z4, y4⟩ := cell_blk (j := 4) HB0.out (by decide)
        obtain ⟨z5, y5⟩ := cell_blk (j := 5) HB0.out (by decide)
        have HE := Aside0.mk (macRes_bad hlt hok)
        have hc : hexD (bt s (3 * i)) < 0 ∨ (0 ≤ hexD (bt s (3 * i)) ∧ hexD (bt s (3 * i + 1)) < 0) ∨ (0 ≤ hexD (bt s (3 * i)) ∧ 0 ≤ hexD (bt s (3 * i + 1)) ∧ i < 5 ∧ bt s (3 * i + 2) ≠ 58) := by
          by_cases c0 : hexD (bt s (3 * i)) < 0
          · exact .inl c0
          · by_cases c1 : hexD (bt s (3 * i + 1)) < 0
            · exact .inr (.inl ⟨by omega, c1⟩)
            · refine .inr (.inr ⟨by omega, by omega, ?_⟩)
              by_cases c2 : i < 5
              · exact ⟨c2, fun e => hok ⟨by omega, by omega, fun _ => e⟩⟩
              · exact absurd ⟨by omega, by omega, fun h => absurd h c2⟩ hok
        clear hok
        rcases hc with c0 | ⟨c0, c1⟩ | ⟨c0, c1, h5, c2⟩
        · go_wp2
          rw [HE.out]
          refine bodyPost_ret (v := .tuple #[.agg #[.int .u8 0, .int .u8 0, .int .u8 0, .int .u8 0, .int .u8 0, .int .u8 0], .int .i64 13]) (by simp [results, Try.results18, go_sem, z0, z1, z2, z3, z4, z5]) rfl ⟨rfl, ?_⟩
          exact below_set (below_set (below_set (below_set (below_set (below_set (pw_below_drewN HB.out nq) (Nat.le_refl _)) (Nat.le_refl _)) (Nat.le_refl _)) (Nat.le_refl _)) (Nat.le_refl _)) (Nat.le_refl _)
        · go_wp2
          rw [HE.out]
          refine bodyPost_ret (v := .tuple #[.agg #[.int .u8 0, .int .u8 0, .int .u8 0, .int .u8 0, .int .u8 0, .int .u8 0], .int .i64 13]) (by simp [results, Try.results18, go_sem, z0, z1, z2, z3, z4, z5]) rfl ⟨rfl, ?_⟩
          exact below_set (below_set (below_set (below_set (below_set (below_set (pw_below_drewN HB.out nq) (Nat.le_refl _)) (Nat.le_refl _)) (Nat.le_refl _)) (Nat.le_refl _)) (Nat.le_refl _)) (Nat.le_refl _)
        · have l2' := l2 h5
          have k2' : (bt s (3 * (i : Int) + 2) != 58) = true := by simp [c2]
          have k2e : (bt s (3 * (i : Int) + 2) == 58) = false := by simp [c2]
          clear l2 c2
          go_wp2
          rw [HE.out]
          refine bodyPost_ret (v := .tuple #[.agg #[.int .u8 0, .int .u8 0, .int .u8 0, .int .u8 0, .int .u8 0, .int .u8 0], .int .i64 13]) (by simp [results, Try.results18, go_sem, z0, z1, z2, z3, z4, z5]) rfl ⟨rfl, ?_⟩
          exact below_set (below_set (below_set (below_set (below_set (below_set (pw_below_drewN HB.out nq) (Nat.le_refl _)) (Nat.le_refl _)) (Nat.le_refl _)) (Nat.le_refl _)) (Nat.le_refl _)) (Nat.le_refl _)
    · obtain rfl : i = 6 := by omega
      have HE := Aside0.mk (macRes_ok (s := s) (fun j hj => HR.out.2.2 j hj))
      have hcs : cs = #[.int .u8 (pv s 0), .int .u8 (pv s 1), .int .u8 (pv s 2), .int .u8 (pv s 3), .int .u8 (pv s 4), .int .u8 (pv s 5)] := by
        obtain ⟨hl, hg, _⟩ := HR.out
        apply Array.ext_getElem?
        intro j
        by_cases hj : j < 6
        · rw [hg j hj]
          match j, hj with
          | 0, _ | 1, _ | 2, _ | 3, _ | 4, _ | 5, _ => rfl
        · rw [Array.getElem?_eq_none (by omega), Array.getElem?_eq_none (by simp; omega)]
      subst hcs
      obtain ⟨z0, y0⟩ := cell_blk (j := 0) hb0 (by decide)
      obtain ⟨z1, y1⟩ := cell_blk (j := 1) hb0 (by decide)
      obtain ⟨z2, y2⟩ := cell_blk (j := 2) hb0 (by decide)
      obtain ⟨z3, y3⟩ := cell_blk (j := 3) hb0 (by decide)
      obtain ⟨z4, y4⟩ := cell_blk (j := 4) hb0 (by decide)
      obtain ⟨z5, y5⟩ := cell_blk (j := 5) hb0 (by decide)
      obtain ⟨p0, _⟩ := cell_blk (j := 0) hb1 (by simp)
      obtain ⟨p1, _⟩ := cell_blk (j := 1) hb1 (by simp)
      obtain ⟨p2, _⟩ := cell_blk (j := 2) hb1 (by simp)
      obtain ⟨p3, _⟩ := cell_blk (j := 3) hb1 (by simp)
      obtain ⟨p4, _⟩ := cell_blk (j := 4) hb1 (by simp)
      obtain ⟨p5, _⟩ := cell_blk (j := 5) hb1 (by simp)
      clear hb0 hb1
      go_wp2
      rw [HE.out]
      refine bodyPost_ret (v := .tuple #[.agg #[.int .u8 (pv s 0), .int .u8 (pv s 1), .int .u8 (pv s 2), .int .u8 (pv s 3), .int .u8 (pv s 4), .int .u8 (pv s 5)], .int .i64 0]) (by simp [results, Try.results18, go_sem, z0, z1, z2, z3, z4, z5]) rfl ⟨rfl, ?_⟩
      exact below_set (below_set (below_set (below_set (below_set (below_set HB.out (Nat.le_refl _)) (Nat.le_refl _)) (Nat.le_refl _)) (Nat.le_refl _)) (Nat.le_refl _)) (Nat.le_refl _)
set_option maxHeartbeats 4000000 in
set_option maxRecDepth 100000 in
theorem parseMAC_long (s : ByteArray) (w : World) (hs : s.size ≠ 17) :
    Calls Try.prog 18 #[.string s] w fun e w' => e = .returned (.tuple #[.agg #[.int .u8 0, .int .u8 0, .int .u8 0, .int .u8 0, .int .u8 0, .int .u8 0], .int .i64 13]) ∧ Below w.heap.size w w' := by
  have hs1 : ((s.size : Int) == 17) = false := by simp; omega
  have hs2 : ((s.size : Int) != 17) = true := by simp; omega
  clear hs
  go_enter Try.func18, Try.ntmps18
  go_wp2
  refine bodyPost_ret (v := .tuple #[.agg #[.int .u8 0, .int .u8 0, .int .u8 0, .int .u8 0, .int .u8 0, .int .u8 0], .int .i64 13]) (by simp [results, Try.results18, go_sem]) rfl ⟨rfl, ?_⟩
  exact (Below.refl _ _).alloc (Nat.le_refl _) _
def addr_ParseMAC.f (a0 : ByteArray) : Option (Int × Int × Int × Int × Int × Int × Int) :=
  if a0.size = 17 ∧ macAll a0 = true then some (pv a0 0, pv a0 1, pv a0 2, pv a0 3, pv a0 4, pv a0 5, 0) else some (0, 0, 0, 0, 0, 0, 13)
theorem addr_ParseMAC.calls (a0 : ByteArray) (r1 r2 r3 r4 r5 r6 r7 : Int) (w : World) (h : addr_ParseMAC.f a0 = some (r1, r2, r3, r4, r5, r6, r7)) :
    Calls Try.prog 18 #[.string a0] w fun e w' => e = .returned (.tuple #[.agg #[.int .u8 r1, .int .u8 r2, .int .u8 r3, .int .u8 r4, .int .u8 r5, .int .u8 r6], .int .i64 r7]) ∧ Below w.heap.size w w' := by
  unfold addr_ParseMAC.f at h
  by_cases hs : a0.size = 17
  · have hw := parseMAC_walk a0 w hs
    by_cases ha : macAll a0 = true
    · rw [if_pos ⟨hs, ha⟩] at h
      simp only [Option.some.injEq, Prod.mk.injEq] at h
      obtain ⟨rfl, rfl, rfl, rfl, rfl, rfl, rfl⟩ := h
      unfold macRes at hw
      rw [if_pos ha] at hw
      exact hw
    · rw [if_neg (fun x => ha x.2)] at h
      simp only [Option.some.injEq, Prod.mk.injEq] at h
      obtain ⟨rfl, rfl, rfl, rfl, rfl, rfl, rfl⟩ := h
      unfold macRes at hw
      rw [if_neg ha] at hw
      exact hw
  · rw [if_neg (fun x => hs x.1)] at h
    simp only [Option.some.injEq, Prod.mk.injEq] at h
    obtain ⟨rfl, rfl, rfl, rfl, rfl, rfl, rfl⟩ := h
    exact parseMAC_long a0 w hs

/-! ### addr_mask: function 42 -/
def addr_mask.f (a0 : Int) : Option (Int) := if a0 = 0 then (some 0) else (if 0 ≤ (wrap64 (32 - a0)) then (some (shl .u32 4294967295 (wrap64 (32 - a0)))) else (none))
set_option maxHeartbeats 8000000 in
set_option maxRecDepth 100000 in
theorem addr_mask.calls (a0 : Int) (r : Int) (w : World) (h : addr_mask.f a0 = some r) :
    Calls Try.prog 42 #[.int .i64 a0] w fun e w' => e = .returned (.int .u32 r) ∧ Drawn0 w w' := by
  have H : (if a0 = 0 then (some 0) else (if 0 ≤ (wrap64 (32 - a0)) then (some (shl .u32 4294967295 (wrap64 (32 - a0)))) else (none))) = some r := h
  clear h
  by_cases c2 : a0 = 0
  · rw [if_pos c2] at H
    have c2b0 : (a0 == 0) = true := beq_iff_eq.mpr c2
    have c2b1 : (a0 != 0) = false := bne_eq_false_iff_eq.mpr c2
    clear c2
    obtain rfl := Option.some.inj H
    go_enter Try.func42, Try.ntmps42
    go_wp2
    go_ret
    exact ⟨by first | rfl | (simp; done) | (simp [*]; done), by repeat (first | exact Drawn0.refl _ | apply Drawn0.step)⟩
  · rw [if_neg c2] at H
    have c2b0 : (a0 == 0) = false := beq_eq_false_iff_ne.mpr c2
    have c2b1 : (a0 != 0) = true := bne_iff_ne.mpr c2
    obtain ⟨ji3, hji3⟩ : ∃ j_ : Int, (wrap64 (32 - a0)) = j_ := ⟨_, rfl⟩
    replace H : (if 0 ≤ (ji3) then (some (shl .u32 4294967295 (ji3))) else (none)) = some r := by first | (rw [hji3] at H; exact H) | (simp only [hji3] at H ⊢; exact H)
    have hji3w : (IntKind.i64.wrap (32 - a0)) = ji3 := (i64_w _).trans hji3
    by_cases c4 : 0 ≤ (ji3)
    · rw [if_pos c4] at H
      have c4b0 := eq_true c4
      have c4b1 : decide (0 ≤ (ji3)) = true := decide_eq_true c4
      clear c4
      obtain ⟨ji5, hji5⟩ : ∃ j_ : Int, (shl .u32 4294967295 (ji3)) = j_ := ⟨_, rfl⟩
      replace H : (some ji5) = some r := by first | (rw [hji5] at H; exact H) | (simp only [hji5] at H ⊢; exact H)
      have hji5_ : (IntKind.u32.wrap (4294967295 * 2 ^ min (ji3).toNat 32)) = ji5 := hji5
      have hji5z : (ji3) ≤ 32 → (IntKind.u32.wrap (4294967295 * 2 ^ (ji3).toNat)) = ji5 := shl_small hji5
      obtain rfl := Option.some.inj H
      go_enter Try.func42, Try.ntmps42
      go_wp2
      go_ret
      exact ⟨by first | rfl | (simp; done) | (simp only [← hji3, ← hji5] <;> (first | rfl | simp)) | (simp [*]; done), by repeat (first | exact Drawn0.refl _ | apply Drawn0.step)⟩
    · rw [if_neg c4] at H
      exact absurd H (by simp)

/-! ### addr_fault: function 36 -/
def addr_fault.j0 : Nat → Bool → Int → Int → Option (Int)
  | 0, _, _, _ => none
  | k + 1, x3, x114000, x114001 => if x3 = true then (some 11) else ((addr_mask.f x114001).bind fun t114 => (if (Go.bits .andNot .u32 x114000 t114) = 0 then (some 0) else (some 12)))
def addr_fault.f (k : Nat) (a0_0 : Int) (a0_1 : Int) : Option (Int) := if a0_1 < 0 then (addr_fault.j0 k true a0_0 a0_1) else (addr_fault.j0 k (decide (a0_1 > 32)) a0_0 a0_1)
theorem addr_fault.mono_l : ∀ k, (∀ y0 y1 y2, LeO (addr_fault.j0 k y0 y1 y2) (addr_fault.j0 (k + 1) y0 y1 y2))
  | 0 => fun _ _ _ r h => by simp [addr_fault.j0] at h
  | k + 1 => by
    have ih0 := addr_fault.mono_l k
    · intro y0 y1 y2
      unfold addr_fault.j0
      repeat' first
      | (with_reducible exact ih0 _ _ _)
      | (with_reducible exact LeO.refl _)
      | (with_reducible exact LeO.none _)
      | (with_reducible refine LeO.ite ?_ ?_)
      | (with_reducible refine LeO.bind ?_ (fun _ => ?_))
      | exact ih0 _ _ _
      | exact LeO.none _
      | refine LeO.ite ?_ ?_
      | refine LeO.bind ?_ (fun _ => ?_)
theorem addr_fault.mono : ∀ a0 a1 k, LeO (addr_fault.f k a0 a1) (addr_fault.f (k + 1) a0 a1) := by
  intro a0 a1 k
  have ih0 := addr_fault.mono_l k
  unfold addr_fault.f
  repeat' first
      | (with_reducible exact ih0 _ _ _)
      | (with_reducible exact LeO.refl _)
      | (with_reducible exact LeO.none _)
      | (with_reducible refine LeO.ite ?_ ?_)
      | (with_reducible refine LeO.bind ?_ (fun _ => ?_))
      | exact ih0 _ _ _
      | exact LeO.none _
      | refine LeO.ite ?_ ?_
      | refine LeO.bind ?_ (fun _ => ?_)
set_option maxHeartbeats 8000000 in
set_option maxRecDepth 100000 in
theorem addr_fault.calls (k : Nat) (a0_0 : Int) (a0_1 : Int) (r : Int) (w : World) (h : addr_fault.f k a0_0 a0_1 = some r) :
    Calls Try.prog 36 #[.agg #[.int .u32 a0_0, .int .i64 a0_1]] w fun e w' => e = .returned (.int .i64 r) ∧ Below w.heap.size w w' := by
  have hu32 := Try.underlying32
  have HB := Aside0.mk (Below.refl w.heap.size w)
  have H : (if a0_1 < 0 then (addr_fault.j0 k true a0_0 a0_1) else (addr_fault.j0 k (decide (a0_1 > 32)) a0_0 a0_1)) = some r := h
  clear h
  have HC2 := Aside0.mk H
  clear H
  go_enter Try.func36, Try.ntmps36
  go_upto_region 1 with (first | ((with_reducible refine gate_dst (N := 1) rfl ?_); refine box_event ?hg (N := 1) ?hd (cs := #[.int .u32 a0_0, .int .i64 a0_1]) (t := 32) ?hr ?_; (case hd => rfl); (case hg => rfl); (case hr => first | (go_simp; done) | (go_simp; rfl)); intro gb113 hg w3 hbox hb; have n0_ := Aside0.mk (below_step (by repeat (first | (with_reducible first | exact HB.out | apply below_alloc | apply pw_below_drewN | apply below_drew1) | exact HB.out)) hb); have n1_ := Aside0.mk (hbox); have n2_ := Aside0.mk ((by rw [hg]; exact (below_size (by repeat (first | (with_reducible first | exact HB.out | apply below_alloc | apply pw_below_drewN | apply below_drew1) | exact HB.out))) : w.heap.size ≤ gb113)); have n3_ := Aside0.mk ((by rw [hg]; exact (below_size (by repeat (first | (with_reducible first | exact HB.out | apply below_alloc | apply pw_below_drewN | apply below_drew1) | exact HB.out))) : w.heap.size ≤ gb113)); clear HB; have HB := n0_; have BK113 := n1_; have GW113 := n2_; have GE113 := n3_; clear n0_ n1_ n2_ n3_; clear hb hbox hg))
  repeat (go_quiet (first | ((with_reducible refine gate_dst (N := 1) rfl ?_); refine box_event ?hg (N := 1) ?hd (cs := #[.int .u32 a0_0, .int .i64 a0_1]) (t := 32) ?hr ?_; (case hd => rfl); (case hg => rfl); (case hr => first | (go_simp; done) | (go_simp; rfl)); intro gb113 hg w3 hbox hb; have n0_ := Aside0.mk (below_step (by repeat (first | (with_reducible first | exact HB.out | apply below_alloc | apply pw_below_drewN | apply below_drew1) | exact HB.out)) hb); have n1_ := Aside0.mk (hbox); have n2_ := Aside0.mk ((by rw [hg]; exact (below_size (by repeat (first | (with_reducible first | exact HB.out | apply below_alloc | apply pw_below_drewN | apply below_drew1) | exact HB.out))) : w.heap.size ≤ gb113)); have n3_ := Aside0.mk ((by rw [hg]; exact (below_size (by repeat (first | (with_reducible first | exact HB.out | apply below_alloc | apply pw_below_drewN | apply below_drew1) | exact HB.out))) : w.heap.size ≤ gb113)); clear HB; have HB := n0_; have BK113 := n1_; have GW113 := n2_; have GE113 := n3_; clear n0_ n1_ n2_ n3_; clear hb hbox hg)); go_upto_region 1 with (first | ((with_reducible refine gate_dst (N := 1) rfl ?_); refine box_event ?hg (N := 1) ?hd (cs := #[.int .u32 a0_0, .int .i64 a0_1]) (t := 32) ?hr ?_; (case hd => rfl); (case hg => rfl); (case hr => first | (go_simp; done) | (go_simp; rfl)); intro gb113 hg w3 hbox hb; have n0_ := Aside0.mk (below_step (by repeat (first | (with_reducible first | exact HB.out | apply below_alloc | apply pw_below_drewN | apply below_drew1) | exact HB.out)) hb); have n1_ := Aside0.mk (hbox); have n2_ := Aside0.mk ((by rw [hg]; exact (below_size (by repeat (first | (with_reducible first | exact HB.out | apply below_alloc | apply pw_below_drewN | apply below_drew1) | exact HB.out))) : w.heap.size ≤ gb113)); have n3_ := Aside0.mk ((by rw [hg]; exact (below_size (by repeat (first | (with_reducible first | exact HB.out | apply below_alloc | apply pw_below_drewN | apply below_drew1) | exact HB.out))) : w.heap.size ≤ gb113)); clear HB; have HB := n0_; have BK113 := n1_; have GW113 := n2_; have GE113 := n3_; clear n0_ n1_ n2_ n3_; clear hb hbox hg)))
  (try simp only [Act.put, List.setIfInBounds_toArray, List.set_cons_zero, List.set_cons_succ])
  go_cut [3] (fun v3 wc => ∃ (kq : Nat) (x3_1 : Bool), v3 = .bool x3_1 ∧ Aside0 (addr_fault.j0 kq x3_1 a0_0 a0_1 = some r) ∧ Aside0 (kq ≤ k) ∧ Aside0 (wc.heap[gb113]? = some (.cells #[.int .u32 a0_0, .int .i64 a0_1] 32 (0, 0))) ∧ Aside0 (Below w.heap.size w wc))
  case first =>
    have H := HC2.out
    clear HC2
    by_cases c4 : a0_1 < 0
    · rw [if_pos c4] at H
      have c4b0 : decide (a0_1 < 0) = true := decide_eq_true c4
      clear c4
      (first | rw [c4b0] | (simp only [i64_w, i32_w]; rw [c4b0]) | skip)
      have H' := Aside0.mk H
      clear H
      have hcz5_0 : w3.cell? ⟨gb113, 0, none⟩ = some (.int .u32 a0_0) := (blk_cell BK113.out 0).trans rfl
      have hcz5_1 : w3.cell? ⟨gb113, 1, none⟩ = some (.int .i64 a0_1) := (blk_cell BK113.out 1).trans rfl
      have hfz5_0 := blk_frozen BK113.out 0
      have hfz5_1 := blk_frozen BK113.out 1
      go_wp2
      repeat (go_quiet (fail); try go_wp2)
      go_meet
      case rel => exact ⟨_, (true), (by first | rfl | (simp; done) | (simp [*]; done)), H', ⟨by first | omega | exact Nat.le_refl _⟩, ⟨by (with_reducible repeat (first | refine blk_drewN ?_ _ | refine blk_drew ?_ | refine blk_alloc ?_ _)); exact BK113.out⟩, ⟨by repeat (first | (with_reducible first | exact HB.out | apply below_alloc | apply pw_below_drewN | apply below_drew1 | refine below_set ?_ GE113.out) | exact HB.out)⟩⟩
    · rw [if_neg c4] at H
      have c4b0 : decide (a0_1 < 0) = false := decide_eq_false c4
      clear c4
      (first | rw [c4b0] | (simp only [i64_w, i32_w]; rw [c4b0]) | skip)
      have H' := Aside0.mk H
      clear H
      have hcz6_0 : w3.cell? ⟨gb113, 0, none⟩ = some (.int .u32 a0_0) := (blk_cell BK113.out 0).trans rfl
      have hcz6_1 : w3.cell? ⟨gb113, 1, none⟩ = some (.int .i64 a0_1) := (blk_cell BK113.out 1).trans rfl
      have hfz6_0 := blk_frozen BK113.out 0
      have hfz6_1 := blk_frozen BK113.out 1
      go_wp2
      repeat (go_quiet (fail); try go_wp2)
      go_meet
      case rel => exact ⟨_, (decide (a0_1 > 32)), (by first | rfl | (simp; done) | (simp [*]; done)), H', ⟨by first | omega | exact Nat.le_refl _⟩, ⟨by (with_reducible repeat (first | refine blk_drewN ?_ _ | refine blk_drew ?_ | refine blk_alloc ?_ _)); exact BK113.out⟩, ⟨by repeat (first | (with_reducible first | exact HB.out | apply below_alloc | apply pw_below_drewN | apply below_drew1 | refine below_set ?_ GE113.out) | exact HB.out)⟩⟩
  case rest =>
    clear HC2
    try clear p2
    try clear c3
    try clear c4
    try clear c4b0
    try clear hcz5_0
    try clear hcz5_1
    try clear hcz6_0
    try clear hcz6_1
    try clear hfz5_0
    try clear hfz5_1
    try clear hfz6_0
    try clear hfz6_1
    obtain ⟨kq, x3_1, rfl, HA, HJ1, BK113, HB⟩ := hcut
    cases kq with
    | zero => exact absurd HA.out (by simp [addr_fault.j0])
    | succ kj1 =>
      have H := HA.out
      clear HA
      simp only [addr_fault.j0] at H
      by_cases c7 : x3_1 = true
      · subst c7
        have H1 : (some 11) = some r := by rw [if_pos rfl] at H; exact H
        clear H
        have H := H1
        clear H1
        obtain rfl := Option.some.inj H
        go_wp2
        repeat (go_quiet (fail); try go_wp2)
        go_ret
        exact ⟨by first | rfl | (simp [errW_none, errW_some] <;> rfl) | (simp [*, errW_none, errW_some] <;> rfl), by repeat (first | (with_reducible first | exact HB.out | apply below_alloc | apply pw_below_drewN | apply below_drew1 | refine below_set ?_ GE113.out) | exact HB.out)⟩
      · replace c7 := Bool.eq_false_iff.mpr c7
        subst c7
        have H1 : ((addr_mask.f a0_1).bind fun t114 => (if (Go.bits .andNot .u32 a0_0 t114) = 0 then (some 0) else (some 12))) = some r := by rw [if_neg (show ¬ (false = true) by decide)] at H; exact H
        clear H
        have H := H1
        clear H1
        replace H := Option.bind_eq_some_iff.mp H
        obtain ⟨t114, A80, H⟩ := H
        replace H : (if (Go.bits .andNot .u32 a0_0 t114) = 0 then (some 0) else (some 12)) = some r := H
        have A8 := Aside0.mk A80
        clear A80
        by_cases c9 : (Go.bits .andNot .u32 a0_0 t114) = 0
        · rw [if_pos c9] at H
          have c9b0 : ((Go.bits .andNot .u32 a0_0 t114) == 0) = true := beq_iff_eq.mpr c9
          have c9b1 : ((Go.bits .andNot .u32 a0_0 t114) != 0) = false := bne_eq_false_iff_eq.mpr c9
          clear c9
          obtain rfl := Option.some.inj H
          have hcz10_0 : wc.cell? ⟨gb113, 0, none⟩ = some (.int .u32 a0_0) := (blk_cell BK113.out 0).trans rfl
          have hcz10_1 : wc.cell? ⟨gb113, 1, none⟩ = some (.int .i64 a0_1) := (blk_cell BK113.out 1).trans rfl
          have hfz10_0 := blk_frozen BK113.out 0
          have hfz10_1 := blk_frozen BK113.out 1
          go_wp2_with (first | (go_at_call 42; (with_reducible refine (addr_mask.calls a0_1 t114 _ A8.out).mono ?_); rintro e w' ⟨rfl, ⟨nd, rfl⟩⟩; (try first | exact ⟨rfl, _, World.drewN_drewN _ _ _⟩ | exact ⟨rfl, _, Eq.trans (World.drewN_drewN _ _ _) (congrArg (World.drewN _) (Nat.add_assoc _ _ _))⟩)))
          repeat (go_quiet (first | (go_at_call 42; (with_reducible refine (addr_mask.calls a0_1 t114 _ A8.out).mono ?_); rintro e w' ⟨rfl, ⟨nd, rfl⟩⟩; (try first | exact ⟨rfl, _, World.drewN_drewN _ _ _⟩ | exact ⟨rfl, _, Eq.trans (World.drewN_drewN _ _ _) (congrArg (World.drewN _) (Nat.add_assoc _ _ _))⟩))); try go_wp2_with (first | (go_at_call 42; (with_reducible refine (addr_mask.calls a0_1 t114 _ A8.out).mono ?_); rintro e w' ⟨rfl, ⟨nd, rfl⟩⟩; (try first | exact ⟨rfl, _, World.drewN_drewN _ _ _⟩ | exact ⟨rfl, _, Eq.trans (World.drewN_drewN _ _ _) (congrArg (World.drewN _) (Nat.add_assoc _ _ _))⟩))))
          go_ret
          exact ⟨by first | rfl | (simp [errW_none, errW_some] <;> rfl) | (simp [*, errW_none, errW_some] <;> rfl), by repeat (first | (with_reducible first | exact HB.out | apply below_alloc | apply pw_below_drewN | apply below_drew1 | refine below_set ?_ GE113.out) | exact HB.out)⟩
        · rw [if_neg c9] at H
          have c9b0 : ((Go.bits .andNot .u32 a0_0 t114) == 0) = false := beq_eq_false_iff_ne.mpr c9
          have c9b1 : ((Go.bits .andNot .u32 a0_0 t114) != 0) = true := bne_iff_ne.mpr c9
          obtain rfl := Option.some.inj H
          have hcz11_0 : wc.cell? ⟨gb113, 0, none⟩ = some (.int .u32 a0_0) := (blk_cell BK113.out 0).trans rfl
          have hcz11_1 : wc.cell? ⟨gb113, 1, none⟩ = some (.int .i64 a0_1) := (blk_cell BK113.out 1).trans rfl
          have hfz11_0 := blk_frozen BK113.out 0
          have hfz11_1 := blk_frozen BK113.out 1
          go_wp2_with (first | (go_at_call 42; (with_reducible refine (addr_mask.calls a0_1 t114 _ A8.out).mono ?_); rintro e w' ⟨rfl, ⟨nd, rfl⟩⟩; (try first | exact ⟨rfl, _, World.drewN_drewN _ _ _⟩ | exact ⟨rfl, _, Eq.trans (World.drewN_drewN _ _ _) (congrArg (World.drewN _) (Nat.add_assoc _ _ _))⟩)))
          repeat (go_quiet (first | (go_at_call 42; (with_reducible refine (addr_mask.calls a0_1 t114 _ A8.out).mono ?_); rintro e w' ⟨rfl, ⟨nd, rfl⟩⟩; (try first | exact ⟨rfl, _, World.drewN_drewN _ _ _⟩ | exact ⟨rfl, _, Eq.trans (World.drewN_drewN _ _ _) (congrArg (World.drewN _) (Nat.add_assoc _ _ _))⟩))); try go_wp2_with (first | (go_at_call 42; (with_reducible refine (addr_mask.calls a0_1 t114 _ A8.out).mono ?_); rintro e w' ⟨rfl, ⟨nd, rfl⟩⟩; (try first | exact ⟨rfl, _, World.drewN_drewN _ _ _⟩ | exact ⟨rfl, _, Eq.trans (World.drewN_drewN _ _ _) (congrArg (World.drewN _) (Nat.add_assoc _ _ _))⟩))))
          go_ret
          exact ⟨by first | rfl | (simp [errW_none, errW_some] <;> rfl) | (simp [*, errW_none, errW_some] <;> rfl), by repeat (first | (with_reducible first | exact HB.out | apply below_alloc | apply pw_below_drewN | apply below_drew1 | refine below_set ?_ GE113.out) | exact HB.out)⟩

end Go.Proofs.Ytncpcjphljfcpaa.PTwo
