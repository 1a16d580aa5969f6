-- written by xp.sh, a program of this seat's session
import Derived.Test.YtncpcjphljfcpaaDoorPScrx0
import Derived.Test.YtncpcjphljfcpaaDoorPScrx1
import Derived.Test.YtncpcjphljfcpaaDoorPScrx2
import Derived.Test.YtncpcjphljfcpaaDoorPScrx3
import Derived.Test.YtncpcjphljfcpaaDoorPScrx4
import Derived.Test.YtncpcjphljfcpaaDoorPScrx5
namespace Go.Proofs.YtncpcjphljfcpaaDoor.PScr
open Go.RowKit Go.Proofs.YtncpcjphljfcpaaDoorW.PrintWords Go.Proofs.YtncpcjphljfcpaaDoorW.PrintLast Go.Proofs.YtncpcjphljfcpaaDoorW.PrintMore
attribute [local go_sem] max2_int min2_int max_two min_two max_three min_three max_four min_four   -- for this text's walks alone
set_option linter.unusedVariables false
set_option linter.unusedSimpArgs false

attribute [local go_sem high] eqA31 eqA33
/-! ### weftref1_digit: function 42 -/
def weftref1_digit.l0 : Nat → Int → Int → Option (Int)
  | 0, _, _ => none
  | k + 1, x0, x3 => if x3 < 16 then (if 0 ≤ x3 then (if (bt (⟨#[48, 49, 50, 51, 52, 53, 54, 55, 56, 57, 97, 98, 99, 100, 101, 102]⟩ : ByteArray) x3) = x0 then (some x3) else (if (bt (⟨#[48, 49, 50, 51, 52, 53, 54, 55, 56, 57, 65, 66, 67, 68, 69, 70]⟩ : ByteArray) x3) = x0 then (some x3) else (weftref1_digit.l0 k x0 (wrap64 (x3 + 1))))) else (none)) else (some (-1))
def weftref1_digit.f (k : Nat) (a0 : Int) : Option (Int) := weftref1_digit.l0 k a0 0
theorem weftref1_digit.mono_l : ∀ k, (∀ y0 y1, LeO (weftref1_digit.l0 k y0 y1) (weftref1_digit.l0 (k + 1) y0 y1))
  | 0 => fun _ _ r h => by simp [weftref1_digit.l0] at h
  | k + 1 => by
    have ih0 := weftref1_digit.mono_l k
    · intro y0 y1
      unfold weftref1_digit.l0
      repeat' first
      | (with_reducible exact ih0 _ _)
      | (with_reducible exact LeO.refl _)
      | (with_reducible exact LeO.none _)
      | (with_reducible refine LeO.ite ?_ ?_)
      | (with_reducible refine LeO.bind ?_ (fun _ => ?_))
      | exact ih0 _ _
      | exact LeO.none _
      | refine LeO.ite ?_ ?_
      | refine LeO.bind ?_ (fun _ => ?_)
theorem weftref1_digit.mono : ∀ a0 k, LeO (weftref1_digit.f k a0) (weftref1_digit.f (k + 1) a0) := by
  intro a0 k
  have ih0 := weftref1_digit.mono_l k
  unfold weftref1_digit.f
  repeat' first
      | (with_reducible exact ih0 _ _)
      | (with_reducible exact LeO.refl _)
      | (with_reducible exact LeO.none _)
      | (with_reducible refine LeO.ite ?_ ?_)
      | (with_reducible refine LeO.bind ?_ (fun _ => ?_))
      | exact ih0 _ _
      | exact LeO.none _
      | refine LeO.ite ?_ ?_
      | refine LeO.bind ?_ (fun _ => ?_)
set_option maxHeartbeats 8000000 in
set_option maxRecDepth 100000 in
theorem weftref1_digit.calls (k : Nat) (a0 : Int) (r : Int) (w : World) (h : weftref1_digit.f k a0 = some r) :
    Calls Tryd.prog 42 #[.int .u8 a0] w fun e w' => e = .returned (.int .i64 r) ∧ Drawn0 w w' := by
  have H : (weftref1_digit.l0 k a0 0) = some r := h
  clear h
  have H' := Aside0.mk H
  clear H
  go_enter Tryd.func42, Tryd.ntmps42
  go_wp2
  go_loopg [3] k (fun kq v3 w' => ∃ (x3_1 : Int), v3 = .int .i64 x3_1 ∧ Aside0 (weftref1_digit.l0 kq a0 x3_1 = some r) ∧ Aside0 (kq ≤ k) ∧ Drawn0 w w')
  case atStart => exact ⟨(0), (by first | rfl | (simp; done) | (simp [*]; done)), H', ⟨Nat.le_refl _⟩, by repeat (first | exact Drawn0.refl _ | apply Drawn0.step)⟩
  case round =>
    clear H'
    obtain ⟨x3_1, rfl, HA, HK1, ⟨m1, rfl⟩⟩ := hrel
    cases gk with
    | zero => exact absurd HA.out (by simp [weftref1_digit.l0])
    | succ k1 =>
      have H := HA.out
      clear HA
      simp only [weftref1_digit.l0] at H
      by_cases c2 : x3_1 < 16
      · rw [if_pos c2] at H
        have c2b0 : decide (x3_1 < 16) = true := decide_eq_true c2
        clear c2
        by_cases c3 : 0 ≤ x3_1
        · rw [if_pos c3] at H
          have c3b0 : decide (0 ≤ x3_1) = true := decide_eq_true c3
          clear c3
          by_cases c5 : (bt (⟨#[48, 49, 50, 51, 52, 53, 54, 55, 56, 57, 97, 98, 99, 100, 101, 102]⟩ : ByteArray) x3_1) = a0
          · rw [if_pos c5] at H
            have c5b0 : ((bt (⟨#[48, 49, 50, 51, 52, 53, 54, 55, 56, 57, 97, 98, 99, 100, 101, 102]⟩ : ByteArray) x3_1) == a0) = true := beq_iff_eq.mpr c5
            have c5b1 : ((bt (⟨#[48, 49, 50, 51, 52, 53, 54, 55, 56, 57, 97, 98, 99, 100, 101, 102]⟩ : ByteArray) x3_1) != a0) = false := bne_eq_false_iff_eq.mpr c5
            clear c5
            obtain rfl := Option.some.inj H
            have p4 : 0 ≤ (x3_1 : Int) := of_decide_eq_true (by first | (with_reducible assumption) | assumption)
            have q4 : x3_1 < (16 : Int) := of_decide_eq_true (by first | (with_reducible assumption) | assumption)
            have hx4 := bt_at (⟨#[48, 49, 50, 51, 52, 53, 54, 55, 56, 57, 97, 98, 99, 100, 101, 102]⟩ : ByteArray) x3_1
            replace p4 := eq_true p4
            replace q4 := eq_true q4
            go_wp2
            go_ret
            exact ⟨by first | rfl | (simp; done) | (simp [*]; done), by repeat (first | exact Drawn0.refl _ | apply Drawn0.step)⟩
          · rw [if_neg c5] at H
            have c5b0 : ((bt (⟨#[48, 49, 50, 51, 52, 53, 54, 55, 56, 57, 97, 98, 99, 100, 101, 102]⟩ : ByteArray) x3_1) == a0) = false := beq_eq_false_iff_ne.mpr c5
            have c5b1 : ((bt (⟨#[48, 49, 50, 51, 52, 53, 54, 55, 56, 57, 97, 98, 99, 100, 101, 102]⟩ : ByteArray) x3_1) != a0) = true := bne_iff_ne.mpr c5
            by_cases c7 : (bt (⟨#[48, 49, 50, 51, 52, 53, 54, 55, 56, 57, 65, 66, 67, 68, 69, 70]⟩ : ByteArray) x3_1) = a0
            · rw [if_pos c7] at H
              have c7b0 : ((bt (⟨#[48, 49, 50, 51, 52, 53, 54, 55, 56, 57, 65, 66, 67, 68, 69, 70]⟩ : ByteArray) x3_1) == a0) = true := beq_iff_eq.mpr c7
              have c7b1 : ((bt (⟨#[48, 49, 50, 51, 52, 53, 54, 55, 56, 57, 65, 66, 67, 68, 69, 70]⟩ : ByteArray) x3_1) != a0) = false := bne_eq_false_iff_eq.mpr c7
              clear c7
              obtain rfl := Option.some.inj H
              have p4 : 0 ≤ (x3_1 : Int) := of_decide_eq_true (by first | (with_reducible assumption) | assumption)
              have q4 : x3_1 < (16 : Int) := of_decide_eq_true (by first | (with_reducible assumption) | assumption)
              have hx4 := bt_at (⟨#[48, 49, 50, 51, 52, 53, 54, 55, 56, 57, 97, 98, 99, 100, 101, 102]⟩ : ByteArray) x3_1
              replace p4 := eq_true p4
              replace q4 := eq_true q4
              have p6 : 0 ≤ (x3_1 : Int) := of_decide_eq_true (by first | (with_reducible assumption) | assumption)
              have q6 : x3_1 < (16 : Int) := of_decide_eq_true (by first | (with_reducible assumption) | assumption)
              have hx6 := bt_at (⟨#[48, 49, 50, 51, 52, 53, 54, 55, 56, 57, 65, 66, 67, 68, 69, 70]⟩ : ByteArray) x3_1
              replace p6 := eq_true p6
              replace q6 := eq_true q6
              go_wp2
              go_ret
              exact ⟨by first | rfl | (simp; done) | (simp [*]; done), by repeat (first | exact Drawn0.refl _ | apply Drawn0.step)⟩
            · rw [if_neg c7] at H
              have c7b0 : ((bt (⟨#[48, 49, 50, 51, 52, 53, 54, 55, 56, 57, 65, 66, 67, 68, 69, 70]⟩ : ByteArray) x3_1) == a0) = false := beq_eq_false_iff_ne.mpr c7
              have c7b1 : ((bt (⟨#[48, 49, 50, 51, 52, 53, 54, 55, 56, 57, 65, 66, 67, 68, 69, 70]⟩ : ByteArray) x3_1) != a0) = true := bne_iff_ne.mpr c7
              have H' := Aside0.mk H
              clear H
              have p4 : 0 ≤ (x3_1 : Int) := of_decide_eq_true (by first | (with_reducible assumption) | assumption)
              have q4 : x3_1 < (16 : Int) := of_decide_eq_true (by first | (with_reducible assumption) | assumption)
              have hx4 := bt_at (⟨#[48, 49, 50, 51, 52, 53, 54, 55, 56, 57, 97, 98, 99, 100, 101, 102]⟩ : ByteArray) x3_1
              replace p4 := eq_true p4
              replace q4 := eq_true q4
              have p6 : 0 ≤ (x3_1 : Int) := of_decide_eq_true (by first | (with_reducible assumption) | assumption)
              have q6 : x3_1 < (16 : Int) := of_decide_eq_true (by first | (with_reducible assumption) | assumption)
              have hx6 := bt_at (⟨#[48, 49, 50, 51, 52, 53, 54, 55, 56, 57, 65, 66, 67, 68, 69, 70]⟩ : ByteArray) x3_1
              replace p6 := eq_true p6
              replace q6 := eq_true q6
              go_wp2
              go_roundg k1
              case measure => have := HK1.out; omega
              case rel => exact ⟨(wrap64 (x3_1 + 1)), (by first | rfl | (simp; done) | (simp [*]; done)), H', ⟨by have := HK1.out; omega⟩, by repeat (first | exact Drawn0.refl _ | apply Drawn0.step)⟩
        · rw [if_neg c3] at H
          exact absurd H (by simp)
      · rw [if_neg c2] at H
        have c2b0 : decide (x3_1 < 16) = false := decide_eq_false c2
        clear c2
        obtain rfl := Option.some.inj H
        go_wp2
        go_ret
        exact ⟨by first | rfl | (simp; done) | (simp [*]; done), by repeat (first | exact Drawn0.refl _ | apply Drawn0.step)⟩

/-! ### weftref1_ParseMAC: function 17 -/
-- calls=weft/weftref1.digit
theorem dig_f0 : ∀ n : Nat, n < 256 → weftref1_digit.f 20 (n : Int) = some (hexD n) := by decide +kernel
theorem dig_f (c : Int) (h0 : 0 ≤ c) (h1 : c ≤ 255) : weftref1_digit.f 20 c = some (hexD c) := by
  obtain ⟨n, rfl⟩ := Int.eq_ofNat_of_zero_le h0
  exact dig_f0 n (by omega)
theorem dig_calls (c : Int) (w : World) (h0 : 0 ≤ c) (h1 : c ≤ 255) : Calls Tryd.prog 42 #[.int .u8 c] w fun e w' => e = .returned (.int .i64 (hexD c)) ∧ ∃ m, w' = w.drewN m :=
  (weftref1_digit.calls 20 c _ w (dig_f c h0 h1)).mono fun _ _ ⟨he, hd⟩ => ⟨he, hd.out⟩
theorem or_all16 : ∀ a : Nat, a < 16 → ∀ b : Nat, b < 16 → (Go.bits .or .i64 ((a : Int) * 16) (b : Int)) % 256 = (16 * (a : Int) + b) % 256 := by decide +kernel
theorem pv_sum {s : ByteArray} {i : Nat} (h : pok s i) : 16 * hexD (bt s (3 * i)) + hexD (bt s (3 * i + 1)) = pv s i := by
  obtain ⟨k0, k1, _⟩ := h
  have g0 := hexD_range (bt s (3 * (i : Int)))
  have g1 := hexD_range (bt s (3 * (i : Int) + 1))
  unfold pv
  have := or_all16 (hexD (bt s (3 * (i : Int)))).toNat (by omega) (hexD (bt s (3 * (i : Int) + 1))).toNat (by omega)
  rw [Int.toNat_of_nonneg k0, Int.toNat_of_nonneg k1] at this
  rw [this]; omega
theorem refStep {s : ByteArray} {w wr : World} {i n : Nat} {cs : Array Value} {zs : Array Value} (hi : i < 6) (h0 : wr.heap[w.heap.size]? = some (.cells zs 33 (0, 0))) (h1 : wr.heap[w.heap.size + 1]? = some (.cells cs 33 (0, 0))) (hr : MacGot s i cs) (hk : pok s i) (hb : Below w.heap.size w wr) :
    ∃ (j : Nat) (cs' : Array Value), Value.int .i64 ((i : Int) + 1) = .int .i64 j ∧ j ≤ 6 ∧
      ((wr.drewN n).setCell ⟨w.heap.size + 1, i, none⟩ (.int .u8 (pv s i))).heap[w.heap.size]? = some (.cells zs 33 (0, 0)) ∧
      ((wr.drewN n).setCell ⟨w.heap.size + 1, i, none⟩ (.int .u8 (pv s i))).heap[w.heap.size + 1]? = some (.cells cs' 33 (0, 0)) ∧
      Aside0 (MacGot s j cs') ∧ Aside0 (Below w.heap.size w ((wr.drewN n).setCell ⟨w.heap.size + 1, i, none⟩ (.int .u8 (pv s i)))) := by
  refine ⟨i + 1, cs.setIfInBounds i (.int .u8 (pv s i)), by simp, by omega, blk_far (blk_drewN h0 n) (by simp) _, blk_set (blk_drewN h1 n) _ _, ⟨by simp [hr.1], fun j hj => ?_, fun j hj => ?_⟩, ⟨below_set (pw_below_drewN hb n) (by simp)⟩⟩
  · rw [Array.getElem?_setIfInBounds]
    by_cases e : i = j
    · rw [if_pos e, if_pos (by have := hr.1; omega), e]
    · rw [if_neg e]; exact hr.2.1 j (by omega)
  · by_cases e : j = i
    · rw [e]; exact hk
    · exact hr.2.2 j (by omega)
set_option maxHeartbeats 4000000 in
set_option maxRecDepth 100000 in
theorem refParseMAC_walk (s : ByteArray) (w : World) (hs : s.size = 17) :
    Calls Tryd.prog 17 #[.string s] w fun e w' => e = .returned (macRes s) ∧ Below w.heap.size w w' := by
  have HS := Aside0.mk hs
  have hs1 : ((s.size : Int) == 17) = true := by simp [hs]
  have hs2 : ((s.size : Int) != 17) = false := by simp [hs]
  clear hs
  go_enter Tryd.func17, Tryd.ntmps17
  go_wp2
  clear hs1 hs2
  go_loopw [5, 6, 7] (fun v5 v6 v7 wr => ∃ (i : Nat) (cs : Array Value), v5 = .int .i64 i ∧ i ≤ 6 ∧ wr.heap[w.heap.size]? = some (.cells #[.int .u8 0, .int .u8 0, .int .u8 0, .int .u8 0, .int .u8 0, .int .u8 0] 33 (0, 0)) ∧
      wr.heap[w.heap.size + 1]? = some (.cells cs 33 (0, 0)) ∧ Aside0 (MacGot s i cs) ∧ Aside0 (Below w.heap.size w wr)) (fun v5 _ _ _ => 6 - (intOf v5).toNat)
  case atStart =>
    refine ⟨0, #[.int .u8 0, .int .u8 0, .int .u8 0, .int .u8 0, .int .u8 0, .int .u8 0], rfl, by omega, ?_, ?_, ⟨by rfl, fun j h => by omega, fun j h => by omega⟩, ⟨((Below.refl _ _).alloc (Nat.le_refl _) _).alloc (by simp) _⟩⟩
    · exact blk_alloc (blk_new _ _) _
    · exact blk_new2 _ _ _
  case round =>
    obtain ⟨i, cs, rfl, hi, hb0, hb1, HR, HB⟩ := hrel
    by_cases hlt : i < 6
    · have hsz := HS.out
      have b0 := bt_at s (3 * (i : Int))
      have b1 := bt_at s (3 * (i : Int) + 1)
      have b2 := bt_at s (3 * (i : Int) + 2)
      have r0 := bt_range s (3 * (i : Int))
      have r1 := bt_range s (3 * (i : Int) + 1)
      have l0 : 3 * i < s.size := by omega
      have l1 : 3 * i + 1 < s.size := by omega
      have HB0 := Aside0.mk hb0
      have HB1 := Aside0.mk hb1
      clear hb0 hb1 hsz
      have g0 := hexD_range (bt s (3 * (i : Int)))
      have g1 := hexD_range (bt s (3 * (i : Int) + 1))
      have l2 : i < 5 → 3 * i + 2 < s.size := by have := HS.out; omega
      by_cases hok : pok s i
      · obtain ⟨k0, k1, k2⟩ := hok
        obtain ⟨ci, fi⟩ := cell_blk (j := i) HB1.out (by have := HR.out.1; omega)
        have HK := Aside0.mk (show pok s i from ⟨k0, k1, k2⟩)
        have HV := Aside0.mk (pv_sum HK.out)
        by_cases h5 : i < 5
        · have l2' := l2 h5
          have k2' : (bt s (3 * (i : Int) + 2) != 58) = false := by simp [k2 h5]
          have k2e : (bt s (3 * (i : Int) + 2) == 58) = true := by simp [k2 h5]
          clear l2 k2
          go_wp2_with (go_at_call 42; refine (dig_calls _ _ (by omega) (by omega)).mono ?_; rintro e w' ⟨rfl, nq, rfl⟩)
          go_roundw
          case rel => rw [HV.out]; exact refStep (n := _) hlt HB0.out HB1.out HR.out HK.out HB.out
          case measure => simp [intOf]; omega
        · clear l2 k2
          go_wp2_with (go_at_call 42; refine (dig_calls _ _ (by omega) (by omega)).mono ?_; rintro e w' ⟨rfl, nq, rfl⟩)
          go_roundw
          case rel => rw [HV.out]; exact refStep (n := _) hlt HB0.out HB1.out HR.out HK.out HB.out
          case measure => simp [intOf]; omega
      · obtain ⟨z0, y0⟩ := cell_blk (j := 0) HB0.out (by decide)
        obtain ⟨z1, y1⟩ := cell_blk (j := 1) HB0.out (by decide)
        obtain ⟨z2, y2⟩ := cell_blk (j := 2) HB0.out (by decide)
        obtain ⟨z3, y3⟩ := cell_blk (j := 3) HB0.out (by decide)
        obtain ⟨z4, y4⟩ := cell_blk (j := 4) HB0.out (by decide)
        obtain ⟨z5, y5⟩ := cell_blk (j := 5) HB0.out (by decide)
        have HE := Aside0.mk (macRes_bad hlt hok)
        have hc : hexD (bt s (3 * i)) < 0 ∨ (0 ≤ hexD (bt s (3 * i)) ∧ hexD (bt s (3 * i + 1)) < 0) ∨ (0 ≤ hexD (bt s (3 * i)) ∧ 0 ≤ hexD (bt s (3 * i + 1)) ∧ i < 5 ∧ bt s (3 * i + 2) ≠ 58) := by
          by_cases c0 : hexD (bt s (3 * i)) < 0
          · exact .inl c0
          · by_cases c1 : hexD (bt s (3 * i + 1)) < 0
            · exact .inr (.inl ⟨by omega, c1⟩)
            · refine .inr (.inr ⟨by omega, by omega, ?_⟩)
              by_cases c2 : i < 5
              · exact ⟨c2, fun e => hok ⟨by omega, by omega, fun _ => e⟩⟩
              · exact absurd ⟨by omega, by omega, fun h => absurd h c2⟩ hok
        clear hok
        rcases hc with c0 | ⟨c0, c1⟩ | ⟨c0, c1, h5, c2⟩
        · go_wp2_with (go_at_call 42; refine (dig_calls _ _ (by omega) (by omega)).mono ?_; rintro e w' ⟨rfl, nq, rfl⟩)
          rw [HE.out]
          refine bodyPost_ret (v := .tuple #[.agg #[.int .u8 0, .int .u8 0, .int .u8 0, .int .u8 0, .int .u8 0, .int .u8 0], .int .i64 13]) (by simp [results, Tryd.results17, go_sem, z0, z1, z2, z3, z4, z5]) rfl ⟨rfl, ?_⟩
          exact below_set (below_set (below_set (below_set (below_set (below_set (pw_below_drewN HB.out _) (Nat.le_refl _)) (Nat.le_refl _)) (Nat.le_refl _)) (Nat.le_refl _)) (Nat.le_refl _)) (Nat.le_refl _)
        · go_wp2_with (go_at_call 42; refine (dig_calls _ _ (by omega) (by omega)).mono ?_; rintro e w' ⟨rfl, nq, rfl⟩)
          rw [HE.out]
          refine bodyPost_ret (v := .tuple #[.agg #[.int .u8 0, .int .u8 0, .int .u8 0, .int .u8 0, .int .u8 0, .int .u8 0], .int .i64 13]) (by simp [results, Tryd.results17, go_sem, z0, z1, z2, z3, z4, z5]) rfl ⟨rfl, ?_⟩
          exact below_set (below_set (below_set (below_set (below_set (below_set (pw_below_drewN HB.out _) (Nat.le_refl _)) (Nat.le_refl _)) (Nat.le_refl _)) (Nat.le_refl _)) (Nat.le_refl _)) (Nat.le_refl _)
        · have l2' := l2 h5
          have k2' : (bt s (3 * (i : Int) + 2) != 58) = true := by simp [c2]
          have k2e : (bt s (3 * (i : Int) + 2) == 58) = false := by simp [c2]
          clear l2 c2
          go_wp2_with (go_at_call 42; refine (dig_calls _ _ (by omega) (by omega)).mono ?_; rintro e w' ⟨rfl, nq, rfl⟩)
          rw [HE.out]
          refine bodyPost_ret (v := .tuple #[.agg #[.int .u8 0, .int .u8 0, .int .u8 0, .int .u8 0, .int .u8 0, .int .u8 0], .int .i64 13]) (by simp [results, Tryd.results17, go_sem, z0, z1, z2, z3, z4, z5]) rfl ⟨rfl, ?_⟩
          exact below_set (below_set (below_set (below_set (below_set (below_set (pw_below_drewN HB.out _) (Nat.le_refl _)) (Nat.le_refl _)) (Nat.le_refl _)) (Nat.le_refl _)) (Nat.le_refl _)) (Nat.le_refl _)
    · obtain rfl : i = 6 := by omega
      have HE := Aside0.mk (macRes_ok (s := s) (fun j hj => HR.out.2.2 j hj))
      have hcs : cs = #[.int .u8 (pv s 0), .int .u8 (pv s 1), .int .u8 (pv s 2), .int .u8 (pv s 3), .int .u8 (pv s 4), .int .u8 (pv s 5)] := by
        obtain ⟨hl, hg, _⟩ := HR.out
        apply Array.ext_getElem?
        intro j
        by_cases hj : j < 6
        · rw [hg j hj]
          match j, hj with
          | 0, _ | 1, _ | 2, _ | 3, _ | 4, _ | 5, _ => rfl
        · rw [Array.getElem?_eq_none (by omega), Array.getElem?_eq_none (by simp; omega)]
      subst hcs
      obtain ⟨z0, y0⟩ := cell_blk (j := 0) hb0 (by decide)
      obtain ⟨z1, y1⟩ := cell_blk (j := 1) hb0 (by decide)
      obtain ⟨z2, y2⟩ := cell_blk (j := 2) hb0 (by decide)
      obtain ⟨z3, y3⟩ := cell_blk (j := 3) hb0 (by decide)
      obtain ⟨z4, y4⟩ := cell_blk (j := 4) hb0 (by decide)
      obtain ⟨z5, y5⟩ := cell_blk (j := 5) hb0 (by decide)
      obtain ⟨p0, _⟩ := cell_blk (j := 0) hb1 (by simp)
      obtain ⟨p1, _⟩ := cell_blk (j := 1) hb1 (by simp)
      obtain ⟨p2, _⟩ := cell_blk (j := 2) hb1 (by simp)
      obtain ⟨p3, _⟩ := cell_blk (j := 3) hb1 (by simp)
      obtain ⟨p4, _⟩ := cell_blk (j := 4) hb1 (by simp)
      obtain ⟨p5, _⟩ := cell_blk (j := 5) hb1 (by simp)
      clear hb0 hb1
      go_wp2
      rw [HE.out]
      refine bodyPost_ret (v := .tuple #[.agg #[.int .u8 (pv s 0), .int .u8 (pv s 1), .int .u8 (pv s 2), .int .u8 (pv s 3), .int .u8 (pv s 4), .int .u8 (pv s 5)], .int .i64 0]) (by simp [results, Tryd.results17, go_sem, z0, z1, z2, z3, z4, z5]) rfl ⟨rfl, ?_⟩
      exact below_set (below_set (below_set (below_set (below_set (below_set HB.out (Nat.le_refl _)) (Nat.le_refl _)) (Nat.le_refl _)) (Nat.le_refl _)) (Nat.le_refl _)) (Nat.le_refl _)
set_option maxHeartbeats 4000000 in
set_option maxRecDepth 100000 in
theorem refParseMAC_long (s : ByteArray) (w : World) (hs : s.size ≠ 17) :
    Calls Tryd.prog 17 #[.string s] w fun e w' => e = .returned (.tuple #[.agg #[.int .u8 0, .int .u8 0, .int .u8 0, .int .u8 0, .int .u8 0, .int .u8 0], .int .i64 13]) ∧ Below w.heap.size w w' := by
  have hs1 : ((s.size : Int) == 17) = false := by simp; omega
  have hs2 : ((s.size : Int) != 17) = true := by simp; omega
  clear hs
  go_enter Tryd.func17, Tryd.ntmps17
  go_wp2
  refine bodyPost_ret (v := .tuple #[.agg #[.int .u8 0, .int .u8 0, .int .u8 0, .int .u8 0, .int .u8 0, .int .u8 0], .int .i64 13]) (by simp [results, Tryd.results17, go_sem]) rfl ⟨rfl, ?_⟩
  exact ((Below.refl _ _).alloc (Nat.le_refl _) _).alloc (by simp) _
def weftref1_ParseMAC.f (a0 : ByteArray) : Option (Int × Int × Int × Int × Int × Int × Int) := addr_ParseMAC.f a0
theorem weftref1_ParseMAC.calls (a0 : ByteArray) (r1 r2 r3 r4 r5 r6 r7 : Int) (w : World) (h : weftref1_ParseMAC.f a0 = some (r1, r2, r3, r4, r5, r6, r7)) :
    Calls Tryd.prog 17 #[.string a0] w fun e w' => e = .returned (.tuple #[.agg #[.int .u8 r1, .int .u8 r2, .int .u8 r3, .int .u8 r4, .int .u8 r5, .int .u8 r6], .int .i64 r7]) ∧ Below w.heap.size w w' := by
  unfold weftref1_ParseMAC.f addr_ParseMAC.f at h
  by_cases hs : a0.size = 17
  · have hw := refParseMAC_walk a0 w hs
    by_cases ha : macAll a0 = true
    · rw [if_pos ⟨hs, ha⟩] at h
      simp only [Option.some.injEq, Prod.mk.injEq] at h
      obtain ⟨rfl, rfl, rfl, rfl, rfl, rfl, rfl⟩ := h
      unfold macRes at hw
      rw [if_pos ha] at hw
      exact hw
    · rw [if_neg (fun x => ha x.2)] at h
      simp only [Option.some.injEq, Prod.mk.injEq] at h
      obtain ⟨rfl, rfl, rfl, rfl, rfl, rfl, rfl⟩ := h
      unfold macRes at hw
      rw [if_neg ha] at hw
      exact hw
  · rw [if_neg (fun x => hs x.1)] at h
    simp only [Option.some.injEq, Prod.mk.injEq] at h
    obtain ⟨rfl, rfl, rfl, rfl, rfl, rfl, rfl⟩ := h
    exact refParseMAC_long a0 w hs

/-! ### weftlaw1_parses: function 7 -/
mutual
def weftlaw1_parses.j0 : Nat → ByteArray → Bool → Option (Bool)
  | 0, _, _ => none
  | k + 1, x0, x32 => if x32 = true then (some false) else ((addr_ParsePrefix.f k x0).bind fun bt134 => ((weftref1_ParsePrefix.f k x0).bind fun bt138 => (if (!(bt134.1 == bt138.1) || (!(bt134.2.1 == bt138.2.1))) = true then (weftlaw1_parses.j1 k x0 true) else (weftlaw1_parses.j1 k x0 (bt134.2.2 != bt138.2.2)))))
def weftlaw1_parses.j1 : Nat → ByteArray → Bool → Option (Bool)
  | 0, _, _ => none
  | k + 1, x0, x50 => if x50 = true then (some false) else ((addr_ParseMAC.f x0).bind fun bt142 => ((weftref1_ParseMAC.f x0).bind fun bt150 => (if (bt142.1 == bt150.1 && (bt142.2.1 == bt150.2.1 && (bt142.2.2.1 == bt150.2.2.1 && (bt142.2.2.2.1 == bt150.2.2.2.1 && (bt142.2.2.2.2.1 == bt150.2.2.2.2.1 && (bt142.2.2.2.2.2.1 == bt150.2.2.2.2.2.1)))))) = true then (some (bt142.2.2.2.2.2.2 == bt150.2.2.2.2.2.2)) else (some false))))
end
def weftlaw1_parses.f (k : Nat) (a0 : ByteArray) : Option (Bool) := (addr_Parse.f k a0).bind fun bt130 => ((weftref1_Parse.f k a0).bind fun bt132 => (if bt130.1 = bt132.1 then (weftlaw1_parses.j0 k a0 (bt130.2 != bt132.2)) else (weftlaw1_parses.j0 k a0 true)))
theorem weftlaw1_parses.mono_l : ∀ k, (∀ y0 y1, LeO (weftlaw1_parses.j0 k y0 y1) (weftlaw1_parses.j0 (k + 1) y0 y1)) ∧ (∀ y0 y1, LeO (weftlaw1_parses.j1 k y0 y1) (weftlaw1_parses.j1 (k + 1) y0 y1))
  | 0 => ⟨fun _ _ r h => by simp [weftlaw1_parses.j0] at h, fun _ _ r h => by simp [weftlaw1_parses.j1] at h⟩
  | k + 1 => by
    obtain ⟨ih0, ih1⟩ := weftlaw1_parses.mono_l k
    refine ⟨?_, ?_⟩
    · intro y0 y1
      unfold weftlaw1_parses.j0
      repeat' first
      | (with_reducible exact ih0 _ _)
      | (with_reducible exact ih1 _ _)
      | (with_reducible exact addr_Parse.mono _ _)
      | (with_reducible exact addr_ParsePrefix.mono _ _)
      | (with_reducible exact weftref1_Parse.mono _ _)
      | (with_reducible exact weftref1_ParsePrefix.mono _ _)
      | (with_reducible exact LeO.refl _)
      | (with_reducible exact LeO.none _)
      | (with_reducible refine LeO.ite ?_ ?_)
      | (with_reducible refine LeO.bind ?_ (fun _ => ?_))
      | exact ih0 _ _
      | exact ih1 _ _
      | exact addr_Parse.mono _ _
      | exact addr_ParsePrefix.mono _ _
      | exact weftref1_Parse.mono _ _
      | exact weftref1_ParsePrefix.mono _ _
      | exact LeO.none _
      | refine LeO.ite ?_ ?_
      | refine LeO.bind ?_ (fun _ => ?_)
    · intro y0 y1
      unfold weftlaw1_parses.j1
      repeat' first
      | (with_reducible exact ih0 _ _)
      | (with_reducible exact ih1 _ _)
      | (with_reducible exact addr_Parse.mono _ _)
      | (with_reducible exact addr_ParsePrefix.mono _ _)
      | (with_reducible exact weftref1_Parse.mono _ _)
      | (with_reducible exact weftref1_ParsePrefix.mono _ _)
      | (with_reducible exact LeO.refl _)
      | (with_reducible exact LeO.none _)
      | (with_reducible refine LeO.ite ?_ ?_)
      | (with_reducible refine LeO.bind ?_ (fun _ => ?_))
      | exact ih0 _ _
      | exact ih1 _ _
      | exact addr_Parse.mono _ _
      | exact addr_ParsePrefix.mono _ _
      | exact weftref1_Parse.mono _ _
      | exact weftref1_ParsePrefix.mono _ _
      | exact LeO.none _
      | refine LeO.ite ?_ ?_
      | refine LeO.bind ?_ (fun _ => ?_)
theorem weftlaw1_parses.mono : ∀ a0 k, LeO (weftlaw1_parses.f k a0) (weftlaw1_parses.f (k + 1) a0) := by
  intro a0 k
  obtain ⟨ih0, ih1⟩ := weftlaw1_parses.mono_l k
  unfold weftlaw1_parses.f
  repeat' first
      | (with_reducible exact ih0 _ _)
      | (with_reducible exact ih1 _ _)
      | (with_reducible exact addr_Parse.mono _ _)
      | (with_reducible exact addr_ParsePrefix.mono _ _)
      | (with_reducible exact weftref1_Parse.mono _ _)
      | (with_reducible exact weftref1_ParsePrefix.mono _ _)
      | (with_reducible exact LeO.refl _)
      | (with_reducible exact LeO.none _)
      | (with_reducible refine LeO.ite ?_ ?_)
      | (with_reducible refine LeO.bind ?_ (fun _ => ?_))
      | exact ih0 _ _
      | exact ih1 _ _
      | exact addr_Parse.mono _ _
      | exact addr_ParsePrefix.mono _ _
      | exact weftref1_Parse.mono _ _
      | exact weftref1_ParsePrefix.mono _ _
      | exact LeO.none _
      | refine LeO.ite ?_ ?_
      | refine LeO.bind ?_ (fun _ => ?_)
set_option maxHeartbeats 8000000 in
set_option maxRecDepth 100000 in
theorem weftlaw1_parses.calls (k : Nat) (a0 : ByteArray) (r : Bool) (w : World) (hP : Pow w) (h : weftlaw1_parses.f k a0 = some r) :
    Calls Tryd.prog 7 #[.string a0] w fun e w' => e = .returned (.bool r) ∧ Below w.heap.size w w' := by
  have HP := Aside0.mk hP
  clear hP
  have hu31 := Tryd.underlying31
  have hu33 := Tryd.underlying33
  have HB := Aside0.mk (Below.refl w.heap.size w)
  have H : ((addr_Parse.f k a0).bind fun bt130 => ((weftref1_Parse.f k a0).bind fun bt132 => (if bt130.1 = bt132.1 then (weftlaw1_parses.j0 k a0 (bt130.2 != bt132.2)) else (weftlaw1_parses.j0 k a0 true)))) = some r := h
  clear h
  replace H := Option.bind_eq_some_iff.mp H
  obtain ⟨⟨t130, t131⟩, A20, H⟩ := H
  replace H : ((weftref1_Parse.f k a0).bind fun bt132 => (if t130 = bt132.1 then (weftlaw1_parses.j0 k a0 (t131 != bt132.2)) else (weftlaw1_parses.j0 k a0 true))) = some r := H
  have A2 := Aside0.mk A20
  clear A20
  replace H := Option.bind_eq_some_iff.mp H
  obtain ⟨⟨t132, t133⟩, A30, H⟩ := H
  replace H : (if t130 = t132 then (weftlaw1_parses.j0 k a0 (t131 != t133)) else (weftlaw1_parses.j0 k a0 true)) = some r := H
  have A3 := Aside0.mk A30
  clear A30
  have HC4 := Aside0.mk H
  clear H
  go_enter Tryd.func7, Tryd.ntmps7
  go_upto_region 3 with (first | ((with_reducible refine gate_callee (f := 12) rfl ?_); refine goesL_ (some 17) rfl rfl Tryd.func12 (by kernel_rfl) rfl #[.string a0] rfl (by (try simp only [List.map_toArray, List.map_cons, List.map_nil]); first | done | rfl | (simp only [List.length_drop, List.length_take]; rfl)) ?_; (with_reducible refine (addr_Parse.calls k a0 t130 t131 _ A2.out).mono ?_); rintro e w' ⟨rfl, ⟨nd, rfl⟩⟩; refine ⟨_, rfl, ?_⟩) | ((with_reducible refine gate_callee (f := 13) rfl ?_); refine goesL_ (some 22) rfl rfl Tryd.func13 (by kernel_rfl) rfl #[.string a0] rfl (by (try simp only [List.map_toArray, List.map_cons, List.map_nil]); first | done | rfl | (simp only [List.length_drop, List.length_take]; rfl)) ?_; (with_reducible refine (weftref1_Parse.calls k a0 t132 t133 _ (by first | exact HP.out | exact HP.out.on HB.out | exact HP.out.drewN _ | exact (HP.out.on HB.out).drewN _ | (refine HP.out.on ?_; repeat (first | (with_reducible first | exact HB.out | apply below_alloc | apply pw_below_drewN | apply below_drew1) | refine below_set ?_ (Aside0.out (by assumption)) | exact HB.out | exact Below.refl _ _))) A3.out).mono ?_); rintro e w5 ⟨rfl, hb⟩; refine ⟨_, rfl, ?_⟩; have n0_ := Aside0.mk (below_step (by repeat (first | (with_reducible first | exact HB.out | apply below_alloc | apply pw_below_drewN | apply below_drew1) | exact HB.out)) hb); clear HB; have HB := n0_; clear n0_; (try clear hb); (try clear hb2); (try clear hk); (try clear hi)))
  (try simp only [Act.put, List.setIfInBounds_toArray, List.set_cons_zero, List.set_cons_succ])
  go_cut [32] (fun v32 wc => ∃ (kq : Nat) (x32_3 : Bool), v32 = .bool x32_3 ∧ Aside0 (weftlaw1_parses.j0 kq a0 x32_3 = some r) ∧ Aside0 (kq ≤ k) ∧ Aside0 (Below w.heap.size w wc))
  case first =>
    have H := HC4.out
    clear HC4
    by_cases c6 : t130 = t132
    · rw [if_pos c6] at H
      have c6b0 : (t130 == t132) = true := beq_iff_eq.mpr c6
      have c6b1 : (t130 != t132) = false := bne_eq_false_iff_eq.mpr c6
      clear c6
      (first | rw [c6b0] | (simp only [i64_w, i32_w]; rw [c6b0]) | skip)
      have H' := Aside0.mk H
      clear H
      go_wp2
      go_meet
      case rel => exact ⟨_, ((t131 != t133)), (by first | rfl | (simp; done) | (simp [*]; done)), H', ⟨by first | omega | exact Nat.le_refl _⟩, ⟨by repeat (first | (with_reducible first | exact HB.out | apply below_alloc | apply pw_below_drewN | apply below_drew1) | exact HB.out)⟩⟩
    · rw [if_neg c6] at H
      have c6b0 : (t130 == t132) = false := beq_eq_false_iff_ne.mpr c6
      have c6b1 : (t130 != t132) = true := bne_iff_ne.mpr c6
      (first | rw [c6b0] | (simp only [i64_w, i32_w]; rw [c6b0]) | skip)
      have H' := Aside0.mk H
      clear H
      go_wp2
      go_meet
      case rel => exact ⟨_, (true), (by first | rfl | (simp; done) | (simp [*]; done)), H', ⟨by first | omega | exact Nat.le_refl _⟩, ⟨by repeat (first | (with_reducible first | exact HB.out | apply below_alloc | apply pw_below_drewN | apply below_drew1) | exact HB.out)⟩⟩
  case rest =>
    clear HC4
    try clear c1
    try clear p2
    try clear c6
    try clear c6b0
    try clear c6b1
    obtain ⟨kq, x32_3, rfl, HA, HJ3, HB⟩ := hcut
    cases kq with
    | zero => exact absurd HA.out (by simp [weftlaw1_parses.j0])
    | succ kj3 =>
      have H := HA.out
      clear HA
      simp only [weftlaw1_parses.j0] at H
      by_cases c7 : x32_3 = true
      · subst c7
        have H1 : (some false) = some r := by rw [if_pos rfl] at H; exact H
        clear H
        have H := H1
        clear H1
        obtain rfl := Option.some.inj H
        go_wp2
        go_ret
        exact ⟨by first | rfl | (simp [errW_none, errW_some] <;> rfl) | (simp [*, errW_none, errW_some] <;> rfl), by repeat (first | (with_reducible first | exact HB.out | apply below_alloc | apply pw_below_drewN | apply below_drew1) | exact HB.out)⟩
      · replace c7 := Bool.eq_false_iff.mpr c7
        subst c7
        have H1 : ((addr_ParsePrefix.f kj3 a0).bind fun bt134 => ((weftref1_ParsePrefix.f kj3 a0).bind fun bt138 => (if (!(bt134.1 == bt138.1) || (!(bt134.2.1 == bt138.2.1))) = true then (weftlaw1_parses.j1 kj3 a0 true) else (weftlaw1_parses.j1 kj3 a0 (bt134.2.2 != bt138.2.2))))) = some r := by rw [if_neg (show ¬ (false = true) by decide)] at H; exact H
        clear H
        have H := H1
        clear H1
        replace H := Option.bind_eq_some_iff.mp H
        obtain ⟨⟨t134, t135, t136⟩, A80, H⟩ := H
        replace H : ((weftref1_ParsePrefix.f kj3 a0).bind fun bt138 => (if (!(t134 == bt138.1) || (!(t135 == bt138.2.1))) = true then (weftlaw1_parses.j1 kj3 a0 true) else (weftlaw1_parses.j1 kj3 a0 (t136 != bt138.2.2)))) = some r := H
        have A8 := Aside0.mk A80
        clear A80
        replace H := Option.bind_eq_some_iff.mp H
        obtain ⟨⟨t138, t139, t140⟩, A90, H⟩ := H
        replace H : (if (!(t134 == t138) || (!(t135 == t139))) = true then (weftlaw1_parses.j1 kj3 a0 true) else (weftlaw1_parses.j1 kj3 a0 (t136 != t140))) = some r := H
        have A9 := Aside0.mk A90
        clear A90
        have HC10 := Aside0.mk H
        clear H
        go_upto_region 7 with (first | ((with_reducible refine gate_callee (f := 14) rfl ?_); refine goesL_ (some 35) rfl rfl Tryd.func14 (by kernel_rfl) rfl #[.string a0] rfl (by (try simp only [List.map_toArray, List.map_cons, List.map_nil]); first | done | rfl | (simp only [List.length_drop, List.length_take]; rfl)) ?_; (with_reducible refine (addr_ParsePrefix.calls kj3 a0 t134 t135 t136 _ A8.out).mono ?_); rintro e w11 ⟨rfl, hb⟩; refine ⟨_, rfl, ?_⟩; have n0_ := Aside0.mk (below_step (by repeat (first | (with_reducible first | exact HB.out | apply below_alloc | apply pw_below_drewN | apply below_drew1) | exact HB.out)) hb); clear HB; have HB := n0_; clear n0_; (try clear hb); (try clear hb2); (try clear hk); (try clear hi)) | ((with_reducible refine gate_dst (N := 7) rfl ?_); refine box_event ?hg (N := 7) ?hd (cs := #[.int .u32 0, .int .i64 0]) (t := 31) ?hr ?_; (case hd => rfl); (case hg => rfl); (case hr => first | (go_simp; done) | (go_simp; rfl)); intro gb137 hg w12 hbox hb; have n0_ := Aside0.mk (below_step (by repeat (first | (with_reducible first | exact HB.out | apply below_alloc | apply pw_below_drewN | apply below_drew1) | exact HB.out)) hb); have n1_ := Aside0.mk (hbox); have n2_ := Aside0.mk ((by rw [hg]; exact (below_size (by repeat (first | (with_reducible first | exact HB.out | apply below_alloc | apply pw_below_drewN | apply below_drew1) | exact HB.out))) : w.heap.size ≤ gb137)); have n3_ := Aside0.mk ((by rw [hg]; exact (below_size (by repeat (first | (with_reducible first | exact HB.out | apply below_alloc | apply pw_below_drewN | apply below_drew1) | exact HB.out))) : w.heap.size ≤ gb137)); clear HB; have HB := n0_; have BK137 := n1_; have GW137 := n2_; have GE137 := n3_; clear n0_ n1_ n2_ n3_; clear hb hbox hg; have hcz13_0 : w12.cell? ⟨gb137, 0, none⟩ = some (.int .u32 0) := (blk_cell BK137.out 0).trans rfl; have hcz13_1 : w12.cell? ⟨gb137, 1, none⟩ = some (.int .i64 0) := (blk_cell BK137.out 1).trans rfl; have hfz13_0 := blk_frozen BK137.out 0; have hfz13_1 := blk_frozen BK137.out 1) | ((with_reducible refine gate_callee (f := 15) rfl ?_); refine goesL_ (some 40) rfl rfl Tryd.func15 (by kernel_rfl) rfl #[.string a0] rfl (by (try simp only [List.map_toArray, List.map_cons, List.map_nil]); first | done | rfl | (simp only [List.length_drop, List.length_take]; rfl)) ?_; (with_reducible refine (weftref1_ParsePrefix.calls kj3 a0 t138 t139 t140 _ (by first | exact HP.out | exact HP.out.on HB.out | exact HP.out.drewN _ | exact (HP.out.on HB.out).drewN _ | (refine HP.out.on ?_; repeat (first | (with_reducible first | exact HB.out | apply below_alloc | apply pw_below_drewN | apply below_drew1) | refine below_set ?_ (Aside0.out (by assumption)) | exact HB.out | exact Below.refl _ _))) A9.out).mono ?_); rintro e w14 ⟨rfl, hb⟩; refine ⟨_, rfl, ?_⟩; have n0_ := Aside0.mk (blk_below (g := gb137) (o := .cells #[.int .u32 t134, .int .i64 t135] 31 (0, 0)) (by (with_reducible repeat (first | refine blk_drewN ?_ _ | refine blk_drew ?_ | refine blk_alloc ?_ _)); refine blk_put (cs := #[.int .u32 t134, .int .i64 0]) ?_ 1 _ rfl; (with_reducible repeat (first | refine blk_drewN ?_ _ | refine blk_drew ?_ | refine blk_alloc ?_ _)); refine blk_put (cs := #[.int .u32 0, .int .i64 0]) ?_ 0 _ rfl; (with_reducible repeat (first | refine blk_drewN ?_ _ | refine blk_drew ?_ | refine blk_alloc ?_ _)); exact BK137.out) hb); have n1_ := Aside0.mk (below_step (by repeat (first | (with_reducible first | exact HB.out | apply below_alloc | apply pw_below_drewN | apply below_drew1 | refine below_set ?_ GE137.out) | exact HB.out)) hb); clear BK137; clear HB; have BK137 := n0_; have HB := n1_; clear n0_ n1_; (try clear hb); (try clear hb2); (try clear hk); (try clear hi)) | ((with_reducible refine gate_dst (N := 9) rfl ?_); refine box_event ?hg (N := 9) ?hd (cs := #[.int .u32 0, .int .i64 0]) (t := 31) ?hr ?_; (case hd => rfl); (case hg => rfl); (case hr => first | (go_simp; done) | (go_simp; rfl)); intro gb141 hg w15 hbox hb; have n0_ := Aside0.mk (blk_below (g := gb137) (o := .cells #[.int .u32 t134, .int .i64 t135] 31 (0, 0)) (by (with_reducible repeat (first | refine blk_drewN ?_ _ | refine blk_drew ?_ | refine blk_alloc ?_ _)); exact BK137.out) hb); have n1_ := Aside0.mk (below_step (by repeat (first | (with_reducible first | exact HB.out | apply below_alloc | apply pw_below_drewN | apply below_drew1 | refine below_set ?_ GE137.out) | exact HB.out)) hb); have n2_ := Aside0.mk (hbox); have n3_ := Aside0.mk ((by rw [hg]; exact (below_size (by repeat (first | (with_reducible first | exact HB.out | apply below_alloc | apply pw_below_drewN | apply below_drew1 | refine below_set ?_ GE137.out) | exact HB.out))) : w.heap.size ≤ gb141)); have n4_ := Aside0.mk ((by rw [hg]; exact (below_size (by repeat (first | (with_reducible first | exact HB.out | apply below_alloc | apply pw_below_drewN | apply below_drew1 | refine below_set ?_ GE137.out) | exact HB.out))) : w.heap.size ≤ gb141)); have n5_ := Aside0.mk ((by rw [hg]; exact Nat.ne_of_lt (blk_lt (g := gb137) (o := .cells #[.int .u32 t134, .int .i64 t135] 31 (0, 0)) (by (with_reducible repeat (first | refine blk_drewN ?_ _ | refine blk_drew ?_ | refine blk_alloc ?_ _)); exact BK137.out)) : gb137 ≠ gb141)); have n6_ := Aside0.mk ((by rw [hg]; exact Nat.ne_of_gt (blk_lt (g := gb137) (o := .cells #[.int .u32 t134, .int .i64 t135] 31 (0, 0)) (by (with_reducible repeat (first | refine blk_drewN ?_ _ | refine blk_drew ?_ | refine blk_alloc ?_ _)); exact BK137.out)) : gb141 ≠ gb137)); clear BK137; clear HB; have BK137 := n0_; have HB := n1_; have BK141 := n2_; have GW141 := n3_; have GE141 := n4_; have NB137_141 := n5_; have NB141_137 := n6_; clear n0_ n1_ n2_ n3_ n4_ n5_ n6_; clear hb hbox hg; have hnb16 := NB141_137.out; have hnc16 := NB137_141.out; have hcz17_0 : w15.cell? ⟨gb141, 0, none⟩ = some (.int .u32 0) := (blk_cell BK141.out 0).trans rfl; have hcz17_1 : w15.cell? ⟨gb141, 1, none⟩ = some (.int .i64 0) := (blk_cell BK141.out 1).trans rfl; have hfz17_0 := blk_frozen BK141.out 0; have hfz17_1 := blk_frozen BK141.out 1))
        (try simp only [Act.put, List.setIfInBounds_toArray, List.set_cons_zero, List.set_cons_succ])
        go_cut [50] (fun v50 wc => ∃ (kq : Nat) (x50_9 : Bool), v50 = .bool x50_9 ∧ Aside0 (weftlaw1_parses.j1 kq a0 x50_9 = some r) ∧ Aside0 (kq ≤ kj3) ∧ Aside0 (wc.heap[gb137]? = some (.cells #[.int .u32 t134, .int .i64 t135] 31 (0, 0))) ∧ Aside0 (wc.heap[gb141]? = some (.cells #[.int .u32 t138, .int .i64 t139] 31 (0, 0))) ∧ Aside0 (Below w.heap.size w wc))
        case first =>
          have H := HC10.out
          clear HC10
          by_cases c18 : (!(t134 == t138) || (!(t135 == t139))) = true
          · rw [if_pos c18] at H
            have c18b0 : (!(t134 == t138) || (!(t135 == t139))) = true := c18
            clear c18
            (first | rw [c18b0] | (simp only [i64_w, i32_w]; rw [c18b0]) | skip)
            have H' := Aside0.mk H
            clear H
            have hnb19 := NB137_141.out
            have hnc19 := NB141_137.out
            have hcz20_0 : w15.cell? ⟨gb137, 0, none⟩ = some (.int .u32 t134) := (blk_cell BK137.out 0).trans rfl
            have hcz20_1 : w15.cell? ⟨gb137, 1, none⟩ = some (.int .i64 t135) := (blk_cell BK137.out 1).trans rfl
            have hfz20_0 := blk_frozen BK137.out 0
            have hfz20_1 := blk_frozen BK137.out 1
            have hcz21_0 : w15.cell? ⟨gb141, 0, none⟩ = some (.int .u32 0) := (blk_cell BK141.out 0).trans rfl
            have hcz21_1 : w15.cell? ⟨gb141, 1, none⟩ = some (.int .i64 0) := (blk_cell BK141.out 1).trans rfl
            have hfz21_0 := blk_frozen BK141.out 0
            have hfz21_1 := blk_frozen BK141.out 1
            go_wp2
            go_meet
            case rel => exact ⟨_, (true), (by first | rfl | (simp; done) | (simp [*]; done)), H', ⟨by have := HJ3.out; first | omega | exact Nat.le_refl _⟩, ⟨by (with_reducible repeat (first | refine blk_drewN ?_ _ | refine blk_drew ?_ | refine blk_alloc ?_ _)); refine blk_far ?_ NB137_141.out _; (with_reducible repeat (first | refine blk_drewN ?_ _ | refine blk_drew ?_ | refine blk_alloc ?_ _)); refine blk_far ?_ NB137_141.out _; (with_reducible repeat (first | refine blk_drewN ?_ _ | refine blk_drew ?_ | refine blk_alloc ?_ _)); exact BK137.out⟩, ⟨by (with_reducible repeat (first | refine blk_drewN ?_ _ | refine blk_drew ?_ | refine blk_alloc ?_ _)); refine blk_put (cs := #[.int .u32 t138, .int .i64 0]) ?_ 1 _ rfl; (with_reducible repeat (first | refine blk_drewN ?_ _ | refine blk_drew ?_ | refine blk_alloc ?_ _)); refine blk_put (cs := #[.int .u32 0, .int .i64 0]) ?_ 0 _ rfl; (with_reducible repeat (first | refine blk_drewN ?_ _ | refine blk_drew ?_ | refine blk_alloc ?_ _)); exact BK141.out⟩, ⟨by repeat (first | (with_reducible first | exact HB.out | apply below_alloc | apply pw_below_drewN | apply below_drew1 | refine below_set ?_ GE137.out | refine below_set ?_ GE141.out) | exact HB.out)⟩⟩
          · rw [if_neg c18] at H
            have c18b0 : (!(t134 == t138) || (!(t135 == t139))) = false := by simpa using c18
            clear c18
            (first | rw [c18b0] | (simp only [i64_w, i32_w]; rw [c18b0]) | skip)
            have H' := Aside0.mk H
            clear H
            have hnb22 := NB137_141.out
            have hnc22 := NB141_137.out
            have hcz23_0 : w15.cell? ⟨gb137, 0, none⟩ = some (.int .u32 t134) := (blk_cell BK137.out 0).trans rfl
            have hcz23_1 : w15.cell? ⟨gb137, 1, none⟩ = some (.int .i64 t135) := (blk_cell BK137.out 1).trans rfl
            have hfz23_0 := blk_frozen BK137.out 0
            have hfz23_1 := blk_frozen BK137.out 1
            have hcz24_0 : w15.cell? ⟨gb141, 0, none⟩ = some (.int .u32 0) := (blk_cell BK141.out 0).trans rfl
            have hcz24_1 : w15.cell? ⟨gb141, 1, none⟩ = some (.int .i64 0) := (blk_cell BK141.out 1).trans rfl
            have hfz24_0 := blk_frozen BK141.out 0
            have hfz24_1 := blk_frozen BK141.out 1
            go_wp2
            go_meet
            case rel => exact ⟨_, ((t136 != t140)), (by first | rfl | (simp; done) | (simp [*]; done)), H', ⟨by have := HJ3.out; first | omega | exact Nat.le_refl _⟩, ⟨by (with_reducible repeat (first | refine blk_drewN ?_ _ | refine blk_drew ?_ | refine blk_alloc ?_ _)); refine blk_far ?_ NB137_141.out _; (with_reducible repeat (first | refine blk_drewN ?_ _ | refine blk_drew ?_ | refine blk_alloc ?_ _)); refine blk_far ?_ NB137_141.out _; (with_reducible repeat (first | refine blk_drewN ?_ _ | refine blk_drew ?_ | refine blk_alloc ?_ _)); exact BK137.out⟩, ⟨by (with_reducible repeat (first | refine blk_drewN ?_ _ | refine blk_drew ?_ | refine blk_alloc ?_ _)); refine blk_put (cs := #[.int .u32 t138, .int .i64 0]) ?_ 1 _ rfl; (with_reducible repeat (first | refine blk_drewN ?_ _ | refine blk_drew ?_ | refine blk_alloc ?_ _)); refine blk_put (cs := #[.int .u32 0, .int .i64 0]) ?_ 0 _ rfl; (with_reducible repeat (first | refine blk_drewN ?_ _ | refine blk_drew ?_ | refine blk_alloc ?_ _)); exact BK141.out⟩, ⟨by repeat (first | (with_reducible first | exact HB.out | apply below_alloc | apply pw_below_drewN | apply below_drew1 | refine below_set ?_ GE137.out | refine below_set ?_ GE141.out) | exact HB.out)⟩⟩
        case rest =>
          clear HC10
          try clear c1
          try clear c2
          try clear p2
          try clear c6
          try clear c6b0
          try clear c6b1
          try clear c7
          try clear c12
          try clear c13
          try clear c14
          try clear c15
          try clear c16
          try clear c18
          try clear c18b0
          try clear c19
          try clear c22
          try clear hcz13_0
          try clear hcz13_1
          try clear hcz17_0
          try clear hcz17_1
          try clear hcz20_0
          try clear hcz20_1
          try clear hcz21_0
          try clear hcz21_1
          try clear hcz23_0
          try clear hcz23_1
          try clear hcz24_0
          try clear hcz24_1
          try clear hfz13_0
          try clear hfz13_1
          try clear hfz17_0
          try clear hfz17_1
          try clear hfz20_0
          try clear hfz20_1
          try clear hfz21_0
          try clear hfz21_1
          try clear hfz23_0
          try clear hfz23_1
          try clear hfz24_0
          try clear hfz24_1
          try clear p2
          obtain ⟨kq, x50_9, rfl, HA, HJ9, BK137, BK141, HB⟩ := hcut
          cases kq with
          | zero => exact absurd HA.out (by simp [weftlaw1_parses.j1])
          | succ kj9 =>
            have H := HA.out
            clear HA
            simp only [weftlaw1_parses.j1] at H
            by_cases c25 : x50_9 = true
            · subst c25
              have H1 : (some false) = some r := by rw [if_pos rfl] at H; exact H
              clear H
              have H := H1
              clear H1
              obtain rfl := Option.some.inj H
              go_wp2
              go_ret
              exact ⟨by first | rfl | (simp [errW_none, errW_some] <;> rfl) | (simp [*, errW_none, errW_some] <;> rfl), by repeat (first | (with_reducible first | exact HB.out | apply below_alloc | apply pw_below_drewN | apply below_drew1 | refine below_set ?_ GE137.out | refine below_set ?_ GE141.out) | exact HB.out)⟩
            · replace c25 := Bool.eq_false_iff.mpr c25
              subst c25
              have H1 : ((addr_ParseMAC.f a0).bind fun bt142 => ((weftref1_ParseMAC.f a0).bind fun bt150 => (if (bt142.1 == bt150.1 && (bt142.2.1 == bt150.2.1 && (bt142.2.2.1 == bt150.2.2.1 && (bt142.2.2.2.1 == bt150.2.2.2.1 && (bt142.2.2.2.2.1 == bt150.2.2.2.2.1 && (bt142.2.2.2.2.2.1 == bt150.2.2.2.2.2.1)))))) = true then (some (bt142.2.2.2.2.2.2 == bt150.2.2.2.2.2.2)) else (some false)))) = some r := by rw [if_neg (show ¬ (false = true) by decide)] at H; exact H
              clear H
              have H := H1
              clear H1
              replace H := Option.bind_eq_some_iff.mp H
              obtain ⟨⟨t142, t143, t144, t145, t146, t147, t148⟩, A260, H⟩ := H
              replace H : ((weftref1_ParseMAC.f a0).bind fun bt150 => (if (t142 == bt150.1 && (t143 == bt150.2.1 && (t144 == bt150.2.2.1 && (t145 == bt150.2.2.2.1 && (t146 == bt150.2.2.2.2.1 && (t147 == bt150.2.2.2.2.2.1)))))) = true then (some (t148 == bt150.2.2.2.2.2.2)) else (some false))) = some r := H
              have A26 := Aside0.mk A260
              clear A260
              replace H := Option.bind_eq_some_iff.mp H
              obtain ⟨⟨t150, t151, t152, t153, t154, t155, t156⟩, A270, H⟩ := H
              replace H : (if (t142 == t150 && (t143 == t151 && (t144 == t152 && (t145 == t153 && (t146 == t154 && (t147 == t155)))))) = true then (some (t148 == t156)) else (some false)) = some r := H
              have A27 := Aside0.mk A270
              clear A270
              by_cases c28 : (t142 == t150 && (t143 == t151 && (t144 == t152 && (t145 == t153 && (t146 == t154 && (t147 == t155)))))) = true
              · rw [if_pos c28] at H
                have c28b0 : (t142 == t150 && (t143 == t151 && (t144 == t152 && (t145 == t153 && (t146 == t154 && (t147 == t155)))))) = true := c28
                (try (have c28b1 : decide (t142 = t150 && (t143 == t151 && (t144 == t152 && (t145 == t153 && (t146 == t154 && (t147 == t155)))))) = true := by simpa using c28))
                (try (have c28b2 : (t142 == t150 && (t143 == t151 && (t144 == t152 && (t145 == t153 && (t146 == t154 && (t147 == t155)))))) = true := by simpa using c28))
                clear c28
                obtain rfl := Option.some.inj H
                go_wp2_with (first | ((with_reducible refine gate_callee (f := 16) rfl ?_); refine goesL_ (some 53) rfl rfl Tryd.func16 (by kernel_rfl) rfl #[.string a0] rfl (by (try simp only [List.map_toArray, List.map_cons, List.map_nil]); first | done | rfl | (simp only [List.length_drop, List.length_take]; rfl)) ?_; (with_reducible refine (addr_ParseMAC.calls a0 t142 t143 t144 t145 t146 t147 t148 _ A26.out).mono ?_); rintro e w29 ⟨rfl, hb⟩; refine ⟨_, rfl, ?_⟩; have n0_ := Aside0.mk (blk_below (g := gb137) (o := .cells #[.int .u32 t134, .int .i64 t135] 31 (0, 0)) (by (with_reducible repeat (first | refine blk_drewN ?_ _ | refine blk_drew ?_ | refine blk_alloc ?_ _)); exact BK137.out) hb); have n1_ := Aside0.mk (blk_below (g := gb141) (o := .cells #[.int .u32 t138, .int .i64 t139] 31 (0, 0)) (by (with_reducible repeat (first | refine blk_drewN ?_ _ | refine blk_drew ?_ | refine blk_alloc ?_ _)); exact BK141.out) hb); have n2_ := Aside0.mk (below_step (by repeat (first | (with_reducible first | exact HB.out | apply below_alloc | apply pw_below_drewN | apply below_drew1 | refine below_set ?_ GE137.out | refine below_set ?_ GE141.out) | exact HB.out)) hb); clear BK137; clear BK141; clear HB; have BK137 := n0_; have BK141 := n1_; have HB := n2_; clear n0_ n1_ n2_; (try clear hb); (try clear hb2); (try clear hk); (try clear hi)) | ((with_reducible refine gate_dst (N := 11) rfl ?_); refine box_event ?hg (N := 11) ?hd (cs := #[.int .u8 0, .int .u8 0, .int .u8 0, .int .u8 0, .int .u8 0, .int .u8 0]) (t := 33) ?hr ?_; (case hd => rfl); (case hg => rfl); (case hr => first | (go_simp; done) | (go_simp; rfl)); intro gb149 hg w30 hbox hb; have n0_ := Aside0.mk (blk_below (g := gb137) (o := .cells #[.int .u32 t134, .int .i64 t135] 31 (0, 0)) (by (with_reducible repeat (first | refine blk_drewN ?_ _ | refine blk_drew ?_ | refine blk_alloc ?_ _)); exact BK137.out) hb); have n1_ := Aside0.mk (blk_below (g := gb141) (o := .cells #[.int .u32 t138, .int .i64 t139] 31 (0, 0)) (by (with_reducible repeat (first | refine blk_drewN ?_ _ | refine blk_drew ?_ | refine blk_alloc ?_ _)); exact BK141.out) hb); have n2_ := Aside0.mk (below_step (by repeat (first | (with_reducible first | exact HB.out | apply below_alloc | apply pw_below_drewN | apply below_drew1 | refine below_set ?_ GE137.out | refine below_set ?_ GE141.out) | exact HB.out)) hb); have n3_ := Aside0.mk (hbox); have n4_ := Aside0.mk ((by rw [hg]; exact (below_size (by repeat (first | (with_reducible first | exact HB.out | apply below_alloc | apply pw_below_drewN | apply below_drew1 | refine below_set ?_ GE137.out | refine below_set ?_ GE141.out) | exact HB.out))) : w.heap.size ≤ gb149)); have n5_ := Aside0.mk ((by rw [hg]; exact (below_size (by repeat (first | (with_reducible first | exact HB.out | apply below_alloc | apply pw_below_drewN | apply below_drew1 | refine below_set ?_ GE137.out | refine below_set ?_ GE141.out) | exact HB.out))) : w.heap.size ≤ gb149)); have n6_ := Aside0.mk ((by rw [hg]; exact Nat.ne_of_lt (blk_lt (g := gb137) (o := .cells #[.int .u32 t134, .int .i64 t135] 31 (0, 0)) (by (with_reducible repeat (first | refine blk_drewN ?_ _ | refine blk_drew ?_ | refine blk_alloc ?_ _)); exact BK137.out)) : gb137 ≠ gb149)); have n7_ := Aside0.mk ((by rw [hg]; exact Nat.ne_of_gt (blk_lt (g := gb137) (o := .cells #[.int .u32 t134, .int .i64 t135] 31 (0, 0)) (by (with_reducible repeat (first | refine blk_drewN ?_ _ | refine blk_drew ?_ | refine blk_alloc ?_ _)); exact BK137.out)) : gb149 ≠ gb137)); have n8_ := Aside0.mk ((by rw [hg]; exact Nat.ne_of_lt (blk_lt (g := gb141) (o := .cells #[.int .u32 t138, .int .i64 t139] 31 (0, 0)) (by (with_reducible repeat (first | refine blk_drewN ?_ _ | refine blk_drew ?_ | refine blk_alloc ?_ _)); exact BK141.out)) : gb141 ≠ gb149)); have n9_ := Aside0.mk ((by rw [hg]; exact Nat.ne_of_gt (blk_lt (g := gb141) (o := .cells #[.int .u32 t138, .int .i64 t139] 31 (0, 0)) (by (with_reducible repeat (first | refine blk_drewN ?_ _ | refine blk_drew ?_ | refine blk_alloc ?_ _)); exact BK141.out)) : gb149 ≠ gb141)); clear BK137; clear BK141; clear HB; have BK137 := n0_; have BK141 := n1_; have HB := n2_; have BK149 := n3_; have GW149 := n4_; have GE149 := n5_; have NB137_149 := n6_; have NB149_137 := n7_; have NB141_149 := n8_; have NB149_141 := n9_; clear n0_ n1_ n2_ n3_ n4_ n5_ n6_ n7_ n8_ n9_; clear hb hbox hg; have hnb31 := NB149_137.out; have hnc31 := NB137_149.out; have hnb32 := NB149_141.out; have hnc32 := NB141_149.out; have hcz33_0 : w30.cell? ⟨gb149, 0, none⟩ = some (.int .u8 0) := (blk_cell BK149.out 0).trans rfl; have hcz33_1 : w30.cell? ⟨gb149, 1, none⟩ = some (.int .u8 0) := (blk_cell BK149.out 1).trans rfl; have hcz33_2 : w30.cell? ⟨gb149, 2, none⟩ = some (.int .u8 0) := (blk_cell BK149.out 2).trans rfl; have hcz33_3 : w30.cell? ⟨gb149, 3, none⟩ = some (.int .u8 0) := (blk_cell BK149.out 3).trans rfl; have hcz33_4 : w30.cell? ⟨gb149, 4, none⟩ = some (.int .u8 0) := (blk_cell BK149.out 4).trans rfl; have hcz33_5 : w30.cell? ⟨gb149, 5, none⟩ = some (.int .u8 0) := (blk_cell BK149.out 5).trans rfl; have hfz33_0 := blk_frozen BK149.out 0; have hfz33_1 := blk_frozen BK149.out 1; have hfz33_2 := blk_frozen BK149.out 2; have hfz33_3 := blk_frozen BK149.out 3; have hfz33_4 := blk_frozen BK149.out 4; have hfz33_5 := blk_frozen BK149.out 5) | ((with_reducible refine gate_callee (f := 17) rfl ?_); refine goesL_ (some 58) rfl rfl Tryd.func17 (by kernel_rfl) rfl #[.string a0] rfl (by (try simp only [List.map_toArray, List.map_cons, List.map_nil]); first | done | rfl | (simp only [List.length_drop, List.length_take]; rfl)) ?_; (with_reducible refine (weftref1_ParseMAC.calls a0 t150 t151 t152 t153 t154 t155 t156 _ A27.out).mono ?_); rintro e w34 ⟨rfl, hb⟩; refine ⟨_, rfl, ?_⟩; have n0_ := Aside0.mk (blk_below (g := gb137) (o := .cells #[.int .u32 t134, .int .i64 t135] 31 (0, 0)) (by (with_reducible repeat (first | refine blk_drewN ?_ _ | refine blk_drew ?_ | refine blk_alloc ?_ _)); refine blk_far ?_ NB137_149.out _; (with_reducible repeat (first | refine blk_drewN ?_ _ | refine blk_drew ?_ | refine blk_alloc ?_ _)); refine blk_far ?_ NB137_149.out _; (with_reducible repeat (first | refine blk_drewN ?_ _ | refine blk_drew ?_ | refine blk_alloc ?_ _)); refine blk_far ?_ NB137_149.out _; (with_reducible repeat (first | refine blk_drewN ?_ _ | refine blk_drew ?_ | refine blk_alloc ?_ _)); refine blk_far ?_ NB137_149.out _; (with_reducible repeat (first | refine blk_drewN ?_ _ | refine blk_drew ?_ | refine blk_alloc ?_ _)); refine blk_far ?_ NB137_149.out _; (with_reducible repeat (first | refine blk_drewN ?_ _ | refine blk_drew ?_ | refine blk_alloc ?_ _)); refine blk_far ?_ NB137_149.out _; (with_reducible repeat (first | refine blk_drewN ?_ _ | refine blk_drew ?_ | refine blk_alloc ?_ _)); exact BK137.out) hb); have n1_ := Aside0.mk (blk_below (g := gb141) (o := .cells #[.int .u32 t138, .int .i64 t139] 31 (0, 0)) (by (with_reducible repeat (first | refine blk_drewN ?_ _ | refine blk_drew ?_ | refine blk_alloc ?_ _)); refine blk_far ?_ NB141_149.out _; (with_reducible repeat (first | refine blk_drewN ?_ _ | refine blk_drew ?_ | refine blk_alloc ?_ _)); refine blk_far ?_ NB141_149.out _; (with_reducible repeat (first | refine blk_drewN ?_ _ | refine blk_drew ?_ | refine blk_alloc ?_ _)); refine blk_far ?_ NB141_149.out _; (with_reducible repeat (first | refine blk_drewN ?_ _ | refine blk_drew ?_ | refine blk_alloc ?_ _)); refine blk_far ?_ NB141_149.out _; (with_reducible repeat (first | refine blk_drewN ?_ _ | refine blk_drew ?_ | refine blk_alloc ?_ _)); refine blk_far ?_ NB141_149.out _; (with_reducible repeat (first | refine blk_drewN ?_ _ | refine blk_drew ?_ | refine blk_alloc ?_ _)); refine blk_far ?_ NB141_149.out _; (with_reducible repeat (first | refine blk_drewN ?_ _ | refine blk_drew ?_ | refine blk_alloc ?_ _)); exact BK141.out) hb); have n2_ := Aside0.mk (blk_below (g := gb149) (o := .cells #[.int .u8 t142, .int .u8 t143, .int .u8 t144, .int .u8 t145, .int .u8 t146, .int .u8 t147] 33 (0, 0)) (by (with_reducible repeat (first | refine blk_drewN ?_ _ | refine blk_drew ?_ | refine blk_alloc ?_ _)); refine blk_put (cs := #[.int .u8 t142, .int .u8 t143, .int .u8 t144, .int .u8 t145, .int .u8 t146, .int .u8 0]) ?_ 5 _ rfl; (with_reducible repeat (first | refine blk_drewN ?_ _ | refine blk_drew ?_ | refine blk_alloc ?_ _)); refine blk_put (cs := #[.int .u8 t142, .int .u8 t143, .int .u8 t144, .int .u8 t145, .int .u8 0, .int .u8 0]) ?_ 4 _ rfl; (with_reducible repeat (first | refine blk_drewN ?_ _ | refine blk_drew ?_ | refine blk_alloc ?_ _)); refine blk_put (cs := #[.int .u8 t142, .int .u8 t143, .int .u8 t144, .int .u8 0, .int .u8 0, .int .u8 0]) ?_ 3 _ rfl; (with_reducible repeat (first | refine blk_drewN ?_ _ | refine blk_drew ?_ | refine blk_alloc ?_ _)); refine blk_put (cs := #[.int .u8 t142, .int .u8 t143, .int .u8 0, .int .u8 0, .int .u8 0, .int .u8 0]) ?_ 2 _ rfl; (with_reducible repeat (first | refine blk_drewN ?_ _ | refine blk_drew ?_ | refine blk_alloc ?_ _)); refine blk_put (cs := #[.int .u8 t142, .int .u8 0, .int .u8 0, .int .u8 0, .int .u8 0, .int .u8 0]) ?_ 1 _ rfl; (with_reducible repeat (first | refine blk_drewN ?_ _ | refine blk_drew ?_ | refine blk_alloc ?_ _)); refine blk_put (cs := #[.int .u8 0, .int .u8 0, .int .u8 0, .int .u8 0, .int .u8 0, .int .u8 0]) ?_ 0 _ rfl; (with_reducible repeat (first | refine blk_drewN ?_ _ | refine blk_drew ?_ | refine blk_alloc ?_ _)); exact BK149.out) hb); have n3_ := Aside0.mk (below_step (by repeat (first | (with_reducible first | exact HB.out | apply below_alloc | apply pw_below_drewN | apply below_drew1 | refine below_set ?_ GE137.out | refine below_set ?_ GE141.out | refine below_set ?_ GE149.out) | exact HB.out)) hb); clear BK137; clear BK141; clear BK149; clear HB; have BK137 := n0_; have BK141 := n1_; have BK149 := n2_; have HB := n3_; clear n0_ n1_ n2_ n3_; (try clear hb); (try clear hb2); (try clear hk); (try clear hi)) | ((with_reducible refine gate_dst (N := 13) rfl ?_); refine box_event ?hg (N := 13) ?hd (cs := #[.int .u8 0, .int .u8 0, .int .u8 0, .int .u8 0, .int .u8 0, .int .u8 0]) (t := 33) ?hr ?_; (case hd => rfl); (case hg => rfl); (case hr => first | (go_simp; done) | (go_simp; rfl)); intro gb157 hg w35 hbox hb; have n0_ := Aside0.mk (blk_below (g := gb137) (o := .cells #[.int .u32 t134, .int .i64 t135] 31 (0, 0)) (by (with_reducible repeat (first | refine blk_drewN ?_ _ | refine blk_drew ?_ | refine blk_alloc ?_ _)); exact BK137.out) hb); have n1_ := Aside0.mk (blk_below (g := gb141) (o := .cells #[.int .u32 t138, .int .i64 t139] 31 (0, 0)) (by (with_reducible repeat (first | refine blk_drewN ?_ _ | refine blk_drew ?_ | refine blk_alloc ?_ _)); exact BK141.out) hb); have n2_ := Aside0.mk (blk_below (g := gb149) (o := .cells #[.int .u8 t142, .int .u8 t143, .int .u8 t144, .int .u8 t145, .int .u8 t146, .int .u8 t147] 33 (0, 0)) (by (with_reducible repeat (first | refine blk_drewN ?_ _ | refine blk_drew ?_ | refine blk_alloc ?_ _)); exact BK149.out) hb); have n3_ := Aside0.mk (below_step (by repeat (first | (with_reducible first | exact HB.out | apply below_alloc | apply pw_below_drewN | apply below_drew1 | refine below_set ?_ GE137.out | refine below_set ?_ GE141.out | refine below_set ?_ GE149.out) | exact HB.out)) hb); have n4_ := Aside0.mk (hbox); have n5_ := Aside0.mk ((by rw [hg]; exact (below_size (by repeat (first | (with_reducible first | exact HB.out | apply below_alloc | apply pw_below_drewN | apply below_drew1 | refine below_set ?_ GE137.out | refine below_set ?_ GE141.out | refine below_set ?_ GE149.out) | exact HB.out))) : w.heap.size ≤ gb157)); have n6_ := Aside0.mk ((by rw [hg]; exact (below_size (by repeat (first | (with_reducible first | exact HB.out | apply below_alloc | apply pw_below_drewN | apply below_drew1 | refine below_set ?_ GE137.out | refine below_set ?_ GE141.out | refine below_set ?_ GE149.out) | exact HB.out))) : w.heap.size ≤ gb157)); have n7_ := Aside0.mk ((by rw [hg]; exact Nat.ne_of_lt (blk_lt (g := gb137) (o := .cells #[.int .u32 t134, .int .i64 t135] 31 (0, 0)) (by (with_reducible repeat (first | refine blk_drewN ?_ _ | refine blk_drew ?_ | refine blk_alloc ?_ _)); exact BK137.out)) : gb137 ≠ gb157)); have n8_ := Aside0.mk ((by rw [hg]; exact Nat.ne_of_gt (blk_lt (g := gb137) (o := .cells #[.int .u32 t134, .int .i64 t135] 31 (0, 0)) (by (with_reducible repeat (first | refine blk_drewN ?_ _ | refine blk_drew ?_ | refine blk_alloc ?_ _)); exact BK137.out)) : gb157 ≠ gb137)); have n9_ := Aside0.mk ((by rw [hg]; exact Nat.ne_of_lt (blk_lt (g := gb141) (o := .cells #[.int .u32 t138, .int .i64 t139] 31 (0, 0)) (by (with_reducible repeat (first | refine blk_drewN ?_ _ | refine blk_drew ?_ | refine blk_alloc ?_ _)); exact BK141.out)) : gb141 ≠ gb157)); have n10_ := Aside0.mk ((by rw [hg]; exact Nat.ne_of_gt (blk_lt (g := gb141) (o := .cells #[.int .u32 t138, .int .i64 t139] 31 (0, 0)) (by (with_reducible repeat (first | refine blk_drewN ?_ _ | refine blk_drew ?_ | refine blk_alloc ?_ _)); exact BK141.out)) : gb157 ≠ gb141)); have n11_ := Aside0.mk ((by rw [hg]; exact Nat.ne_of_lt (blk_lt (g := gb149) (o := .cells #[.int .u8 t142, .int .u8 t143, .int .u8 t144, .int .u8 t145, .int .u8 t146, .int .u8 t147] 33 (0, 0)) (by (with_reducible repeat (first | refine blk_drewN ?_ _ | refine blk_drew ?_ | refine blk_alloc ?_ _)); exact BK149.out)) : gb149 ≠ gb157)); have n12_ := Aside0.mk ((by rw [hg]; exact Nat.ne_of_gt (blk_lt (g := gb149) (o := .cells #[.int .u8 t142, .int .u8 t143, .int .u8 t144, .int .u8 t145, .int .u8 t146, .int .u8 t147] 33 (0, 0)) (by (with_reducible repeat (first | refine blk_drewN ?_ _ | refine blk_drew ?_ | refine blk_alloc ?_ _)); exact BK149.out)) : gb157 ≠ gb149)); clear BK137; clear BK141; clear BK149; clear HB; have BK137 := n0_; have BK141 := n1_; have BK149 := n2_; have HB := n3_; have BK157 := n4_; have GW157 := n5_; have GE157 := n6_; have NB137_157 := n7_; have NB157_137 := n8_; have NB141_157 := n9_; have NB157_141 := n10_; have NB149_157 := n11_; have NB157_149 := n12_; clear n0_ n1_ n2_ n3_ n4_ n5_ n6_ n7_ n8_ n9_ n10_ n11_ n12_; clear hb hbox hg; have hnb36 := NB157_137.out; have hnc36 := NB137_157.out; have hnb37 := NB157_141.out; have hnc37 := NB141_157.out; have hnb38 := NB157_149.out; have hnc38 := NB149_157.out; have hcz39_0 : w35.cell? ⟨gb157, 0, none⟩ = some (.int .u8 0) := (blk_cell BK157.out 0).trans rfl; have hcz39_1 : w35.cell? ⟨gb157, 1, none⟩ = some (.int .u8 0) := (blk_cell BK157.out 1).trans rfl; have hcz39_2 : w35.cell? ⟨gb157, 2, none⟩ = some (.int .u8 0) := (blk_cell BK157.out 2).trans rfl; have hcz39_3 : w35.cell? ⟨gb157, 3, none⟩ = some (.int .u8 0) := (blk_cell BK157.out 3).trans rfl; have hcz39_4 : w35.cell? ⟨gb157, 4, none⟩ = some (.int .u8 0) := (blk_cell BK157.out 4).trans rfl; have hcz39_5 : w35.cell? ⟨gb157, 5, none⟩ = some (.int .u8 0) := (blk_cell BK157.out 5).trans rfl; have hfz39_0 := blk_frozen BK157.out 0; have hfz39_1 := blk_frozen BK157.out 1; have hfz39_2 := blk_frozen BK157.out 2; have hfz39_3 := blk_frozen BK157.out 3; have hfz39_4 := blk_frozen BK157.out 4; have hfz39_5 := blk_frozen BK157.out 5; have hcz40_0 : w35.cell? ⟨gb149, 0, none⟩ = some (.int .u8 t142) := (blk_cell BK149.out 0).trans rfl; have hcz40_1 : w35.cell? ⟨gb149, 1, none⟩ = some (.int .u8 t143) := (blk_cell BK149.out 1).trans rfl; have hcz40_2 : w35.cell? ⟨gb149, 2, none⟩ = some (.int .u8 t144) := (blk_cell BK149.out 2).trans rfl; have hcz40_3 : w35.cell? ⟨gb149, 3, none⟩ = some (.int .u8 t145) := (blk_cell BK149.out 3).trans rfl; have hcz40_4 : w35.cell? ⟨gb149, 4, none⟩ = some (.int .u8 t146) := (blk_cell BK149.out 4).trans rfl; have hcz40_5 : w35.cell? ⟨gb149, 5, none⟩ = some (.int .u8 t147) := (blk_cell BK149.out 5).trans rfl; have hfz40_0 := blk_frozen BK149.out 0; have hfz40_1 := blk_frozen BK149.out 1; have hfz40_2 := blk_frozen BK149.out 2; have hfz40_3 := blk_frozen BK149.out 3; have hfz40_4 := blk_frozen BK149.out 4; have hfz40_5 := blk_frozen BK149.out 5))
                go_ret
                exact ⟨by first | rfl | (simp [errW_none, errW_some] <;> rfl) | (simp [*, errW_none, errW_some] <;> rfl), by repeat (first | (with_reducible first | exact HB.out | apply below_alloc | apply pw_below_drewN | apply below_drew1 | refine below_set ?_ GE137.out | refine below_set ?_ GE141.out | refine below_set ?_ GE149.out | refine below_set ?_ GE157.out) | exact HB.out)⟩
              · rw [if_neg c28] at H
                have c28b0 : (t142 == t150 && (t143 == t151 && (t144 == t152 && (t145 == t153 && (t146 == t154 && (t147 == t155)))))) = false := by simpa using c28
                (try (have c28b1 : decide (t142 = t150 && (t143 == t151 && (t144 == t152 && (t145 == t153 && (t146 == t154 && (t147 == t155)))))) = false := by simpa using c28))
                (try (have c28b2 : (t142 == t150 && (t143 == t151 && (t144 == t152 && (t145 == t153 && (t146 == t154 && (t147 == t155)))))) = false := by simpa using c28))
                (try (have c28b3 : ¬ (t142 = t150 && (t143 == t151 && (t144 == t152 && (t145 == t153 && (t146 == t154 && (t147 == t155)))))) := by simpa using c28))
                clear c28
                obtain rfl := Option.some.inj H
                go_wp2_with (first | ((with_reducible refine gate_callee (f := 16) rfl ?_); refine goesL_ (some 53) rfl rfl Tryd.func16 (by kernel_rfl) rfl #[.string a0] rfl (by (try simp only [List.map_toArray, List.map_cons, List.map_nil]); first | done | rfl | (simp only [List.length_drop, List.length_take]; rfl)) ?_; (with_reducible refine (addr_ParseMAC.calls a0 t142 t143 t144 t145 t146 t147 t148 _ A26.out).mono ?_); rintro e w41 ⟨rfl, hb⟩; refine ⟨_, rfl, ?_⟩; have n0_ := Aside0.mk (blk_below (g := gb137) (o := .cells #[.int .u32 t134, .int .i64 t135] 31 (0, 0)) (by (with_reducible repeat (first | refine blk_drewN ?_ _ | refine blk_drew ?_ | refine blk_alloc ?_ _)); exact BK137.out) hb); have n1_ := Aside0.mk (blk_below (g := gb141) (o := .cells #[.int .u32 t138, .int .i64 t139] 31 (0, 0)) (by (with_reducible repeat (first | refine blk_drewN ?_ _ | refine blk_drew ?_ | refine blk_alloc ?_ _)); exact BK141.out) hb); have n2_ := Aside0.mk (below_step (by repeat (first | (with_reducible first | exact HB.out | apply below_alloc | apply pw_below_drewN | apply below_drew1 | refine below_set ?_ GE137.out | refine below_set ?_ GE141.out) | exact HB.out)) hb); clear BK137; clear BK141; clear HB; have BK137 := n0_; have BK141 := n1_; have HB := n2_; clear n0_ n1_ n2_; (try clear hb); (try clear hb2); (try clear hk); (try clear hi)) | ((with_reducible refine gate_dst (N := 11) rfl ?_); refine box_event ?hg (N := 11) ?hd (cs := #[.int .u8 0, .int .u8 0, .int .u8 0, .int .u8 0, .int .u8 0, .int .u8 0]) (t := 33) ?hr ?_; (case hd => rfl); (case hg => rfl); (case hr => first | (go_simp; done) | (go_simp; rfl)); intro gb149 hg w42 hbox hb; have n0_ := Aside0.mk (blk_below (g := gb137) (o := .cells #[.int .u32 t134, .int .i64 t135] 31 (0, 0)) (by (with_reducible repeat (first | refine blk_drewN ?_ _ | refine blk_drew ?_ | refine blk_alloc ?_ _)); exact BK137.out) hb); have n1_ := Aside0.mk (blk_below (g := gb141) (o := .cells #[.int .u32 t138, .int .i64 t139] 31 (0, 0)) (by (with_reducible repeat (first | refine blk_drewN ?_ _ | refine blk_drew ?_ | refine blk_alloc ?_ _)); exact BK141.out) hb); have n2_ := Aside0.mk (below_step (by repeat (first | (with_reducible first | exact HB.out | apply below_alloc | apply pw_below_drewN | apply below_drew1 | refine below_set ?_ GE137.out | refine below_set ?_ GE141.out) | exact HB.out)) hb); have n3_ := Aside0.mk (hbox); have n4_ := Aside0.mk ((by rw [hg]; exact (below_size (by repeat (first | (with_reducible first | exact HB.out | apply below_alloc | apply pw_below_drewN | apply below_drew1 | refine below_set ?_ GE137.out | refine below_set ?_ GE141.out) | exact HB.out))) : w.heap.size ≤ gb149)); have n5_ := Aside0.mk ((by rw [hg]; exact (below_size (by repeat (first | (with_reducible first | exact HB.out | apply below_alloc | apply pw_below_drewN | apply below_drew1 | refine below_set ?_ GE137.out | refine below_set ?_ GE141.out) | exact HB.out))) : w.heap.size ≤ gb149)); have n6_ := Aside0.mk ((by rw [hg]; exact Nat.ne_of_lt (blk_lt (g := gb137) (o := .cells #[.int .u32 t134, .int .i64 t135] 31 (0, 0)) (by (with_reducible repeat (first | refine blk_drewN ?_ _ | refine blk_drew ?_ | refine blk_alloc ?_ _)); exact BK137.out)) : gb137 ≠ gb149)); have n7_ := Aside0.mk ((by rw [hg]; exact Nat.ne_of_gt (blk_lt (g := gb137) (o := .cells #[.int .u32 t134, .int .i64 t135] 31 (0, 0)) (by (with_reducible repeat (first | refine blk_drewN ?_ _ | refine blk_drew ?_ | refine blk_alloc ?_ _)); exact BK137.out)) : gb149 ≠ gb137)); have n8_ := Aside0.mk ((by rw [hg]; exact Nat.ne_of_lt (blk_lt (g := gb141) (o := .cells #[.int .u32 t138, .int .i64 t139] 31 (0, 0)) (by (with_reducible repeat (first | refine blk_drewN ?_ _ | refine blk_drew ?_ | refine blk_alloc ?_ _)); exact BK141.out)) : gb141 ≠ gb149)); have n9_ := Aside0.mk ((by rw [hg]; exact Nat.ne_of_gt (blk_lt (g := gb141) (o := .cells #[.int .u32 t138, .int .i64 t139] 31 (0, 0)) (by (with_reducible repeat (first | refine blk_drewN ?_ _ | refine blk_drew ?_ | refine blk_alloc ?_ _)); exact BK141.out)) : gb149 ≠ gb141)); clear BK137; clear BK141; clear HB; have BK137 := n0_; have BK141 := n1_; have HB := n2_; have BK149 := n3_; have GW149 := n4_; have GE149 := n5_; have NB137_149 := n6_; have NB149_137 := n7_; have NB141_149 := n8_; have NB149_141 := n9_; clear n0_ n1_ n2_ n3_ n4_ n5_ n6_ n7_ n8_ n9_; clear hb hbox hg; have hnb43 := NB149_137.out; have hnc43 := NB137_149.out; have hnb44 := NB149_141.out; have hnc44 := NB141_149.out; have hcz45_0 : w42.cell? ⟨gb149, 0, none⟩ = some (.int .u8 0) := (blk_cell BK149.out 0).trans rfl; have hcz45_1 : w42.cell? ⟨gb149, 1, none⟩ = some (.int .u8 0) := (blk_cell BK149.out 1).trans rfl; have hcz45_2 : w42.cell? ⟨gb149, 2, none⟩ = some (.int .u8 0) := (blk_cell BK149.out 2).trans rfl; have hcz45_3 : w42.cell? ⟨gb149, 3, none⟩ = some (.int .u8 0) := (blk_cell BK149.out 3).trans rfl; have hcz45_4 : w42.cell? ⟨gb149, 4, none⟩ = some (.int .u8 0) := (blk_cell BK149.out 4).trans rfl; have hcz45_5 : w42.cell? ⟨gb149, 5, none⟩ = some (.int .u8 0) := (blk_cell BK149.out 5).trans rfl; have hfz45_0 := blk_frozen BK149.out 0; have hfz45_1 := blk_frozen BK149.out 1; have hfz45_2 := blk_frozen BK149.out 2; have hfz45_3 := blk_frozen BK149.out 3; have hfz45_4 := blk_frozen BK149.out 4; have hfz45_5 := blk_frozen BK149.out 5) | ((with_reducible refine gate_callee (f := 17) rfl ?_); refine goesL_ (some 58) rfl rfl Tryd.func17 (by kernel_rfl) rfl #[.string a0] rfl (by (try simp only [List.map_toArray, List.map_cons, List.map_nil]); first | done | rfl | (simp only [List.length_drop, List.length_take]; rfl)) ?_; (with_reducible refine (weftref1_ParseMAC.calls a0 t150 t151 t152 t153 t154 t155 t156 _ A27.out).mono ?_); rintro e w46 ⟨rfl, hb⟩; refine ⟨_, rfl, ?_⟩; have n0_ := Aside0.mk (blk_below (g := gb137) (o := .cells #[.int .u32 t134, .int .i64 t135] 31 (0, 0)) (by (with_reducible repeat (first | refine blk_drewN ?_ _ | refine blk_drew ?_ | refine blk_alloc ?_ _)); refine blk_far ?_ NB137_149.out _; (with_reducible repeat (first | refine blk_drewN ?_ _ | refine blk_drew ?_ | refine blk_alloc ?_ _)); refine blk_far ?_ NB137_149.out _; (with_reducible repeat (first | refine blk_drewN ?_ _ | refine blk_drew ?_ | refine blk_alloc ?_ _)); refine blk_far ?_ NB137_149.out _; (with_reducible repeat (first | refine blk_drewN ?_ _ | refine blk_drew ?_ | refine blk_alloc ?_ _)); refine blk_far ?_ NB137_149.out _; (with_reducible repeat (first | refine blk_drewN ?_ _ | refine blk_drew ?_ | refine blk_alloc ?_ _)); refine blk_far ?_ NB137_149.out _; (with_reducible repeat (first | refine blk_drewN ?_ _ | refine blk_drew ?_ | refine blk_alloc ?_ _)); refine blk_far ?_ NB137_149.out _; (with_reducible repeat (first | refine blk_drewN ?_ _ | refine blk_drew ?_ | refine blk_alloc ?_ _)); exact BK137.out) hb); have n1_ := Aside0.mk (blk_below (g := gb141) (o := .cells #[.int .u32 t138, .int .i64 t139] 31 (0, 0)) (by (with_reducible repeat (first | refine blk_drewN ?_ _ | refine blk_drew ?_ | refine blk_alloc ?_ _)); refine blk_far ?_ NB141_149.out _; (with_reducible repeat (first | refine blk_drewN ?_ _ | refine blk_drew ?_ | refine blk_alloc ?_ _)); refine blk_far ?_ NB141_149.out _; (with_reducible repeat (first | refine blk_drewN ?_ _ | refine blk_drew ?_ | refine blk_alloc ?_ _)); refine blk_far ?_ NB141_149.out _; (with_reducible repeat (first | refine blk_drewN ?_ _ | refine blk_drew ?_ | refine blk_alloc ?_ _)); refine blk_far ?_ NB141_149.out _; (with_reducible repeat (first | refine blk_drewN ?_ _ | refine blk_drew ?_ | refine blk_alloc ?_ _)); refine blk_far ?_ NB141_149.out _; (with_reducible repeat (first | refine blk_drewN ?_ _ | refine blk_drew ?_ | refine blk_alloc ?_ _)); refine blk_far ?_ NB141_149.out _; (with_reducible repeat (first | refine blk_drewN ?_ _ | refine blk_drew ?_ | refine blk_alloc ?_ _)); exact BK141.out) hb); have n2_ := Aside0.mk (blk_below (g := gb149) (o := .cells #[.int .u8 t142, .int .u8 t143, .int .u8 t144, .int .u8 t145, .int .u8 t146, .int .u8 t147] 33 (0, 0)) (by (with_reducible repeat (first | refine blk_drewN ?_ _ | refine blk_drew ?_ | refine blk_alloc ?_ _)); refine blk_put (cs := #[.int .u8 t142, .int .u8 t143, .int .u8 t144, .int .u8 t145, .int .u8 t146, .int .u8 0]) ?_ 5 _ rfl; (with_reducible repeat (first | refine blk_drewN ?_ _ | refine blk_drew ?_ | refine blk_alloc ?_ _)); refine blk_put (cs := #[.int .u8 t142, .int .u8 t143, .int .u8 t144, .int .u8 t145, .int .u8 0, .int .u8 0]) ?_ 4 _ rfl; (with_reducible repeat (first | refine blk_drewN ?_ _ | refine blk_drew ?_ | refine blk_alloc ?_ _)); refine blk_put (cs := #[.int .u8 t142, .int .u8 t143, .int .u8 t144, .int .u8 0, .int .u8 0, .int .u8 0]) ?_ 3 _ rfl; (with_reducible repeat (first | refine blk_drewN ?_ _ | refine blk_drew ?_ | refine blk_alloc ?_ _)); refine blk_put (cs := #[.int .u8 t142, .int .u8 t143, .int .u8 0, .int .u8 0, .int .u8 0, .int .u8 0]) ?_ 2 _ rfl; (with_reducible repeat (first | refine blk_drewN ?_ _ | refine blk_drew ?_ | refine blk_alloc ?_ _)); refine blk_put (cs := #[.int .u8 t142, .int .u8 0, .int .u8 0, .int .u8 0, .int .u8 0, .int .u8 0]) ?_ 1 _ rfl; (with_reducible repeat (first | refine blk_drewN ?_ _ | refine blk_drew ?_ | refine blk_alloc ?_ _)); refine blk_put (cs := #[.int .u8 0, .int .u8 0, .int .u8 0, .int .u8 0, .int .u8 0, .int .u8 0]) ?_ 0 _ rfl; (with_reducible repeat (first | refine blk_drewN ?_ _ | refine blk_drew ?_ | refine blk_alloc ?_ _)); exact BK149.out) hb); have n3_ := Aside0.mk (below_step (by repeat (first | (with_reducible first | exact HB.out | apply below_alloc | apply pw_below_drewN | apply below_drew1 | refine below_set ?_ GE137.out | refine below_set ?_ GE141.out | refine below_set ?_ GE149.out) | exact HB.out)) hb); clear BK137; clear BK141; clear BK149; clear HB; have BK137 := n0_; have BK141 := n1_; have BK149 := n2_; have HB := n3_; clear n0_ n1_ n2_ n3_; (try clear hb); (try clear hb2); (try clear hk); (try clear hi)) | ((with_reducible refine gate_dst (N := 13) rfl ?_); refine box_event ?hg (N := 13) ?hd (cs := #[.int .u8 0, .int .u8 0, .int .u8 0, .int .u8 0, .int .u8 0, .int .u8 0]) (t := 33) ?hr ?_; (case hd => rfl); (case hg => rfl); (case hr => first | (go_simp; done) | (go_simp; rfl)); intro gb157 hg w47 hbox hb; have n0_ := Aside0.mk (blk_below (g := gb137) (o := .cells #[.int .u32 t134, .int .i64 t135] 31 (0, 0)) (by (with_reducible repeat (first | refine blk_drewN ?_ _ | refine blk_drew ?_ | refine blk_alloc ?_ _)); exact BK137.out) hb); have n1_ := Aside0.mk (blk_below (g := gb141) (o := .cells #[.int .u32 t138, .int .i64 t139] 31 (0, 0)) (by (with_reducible repeat (first | refine blk_drewN ?_ _ | refine blk_drew ?_ | refine blk_alloc ?_ _)); exact BK141.out) hb); have n2_ := Aside0.mk (blk_below (g := gb149) (o := .cells #[.int .u8 t142, .int .u8 t143, .int .u8 t144, .int .u8 t145, .int .u8 t146, .int .u8 t147] 33 (0, 0)) (by (with_reducible repeat (first | refine blk_drewN ?_ _ | refine blk_drew ?_ | refine blk_alloc ?_ _)); exact BK149.out) hb); have n3_ := Aside0.mk (below_step (by repeat (first | (with_reducible first | exact HB.out | apply below_alloc | apply pw_below_drewN | apply below_drew1 | refine below_set ?_ GE137.out | refine below_set ?_ GE141.out | refine below_set ?_ GE149.out) | exact HB.out)) hb); have n4_ := Aside0.mk (hbox); have n5_ := Aside0.mk ((by rw [hg]; exact (below_size (by repeat (first | (with_reducible first | exact HB.out | apply below_alloc | apply pw_below_drewN | apply below_drew1 | refine below_set ?_ GE137.out | refine below_set ?_ GE141.out | refine below_set ?_ GE149.out) | exact HB.out))) : w.heap.size ≤ gb157)); have n6_ := Aside0.mk ((by rw [hg]; exact (below_size (by repeat (first | (with_reducible first | exact HB.out | apply below_alloc | apply pw_below_drewN | apply below_drew1 | refine below_set ?_ GE137.out | refine below_set ?_ GE141.out | refine below_set ?_ GE149.out) | exact HB.out))) : w.heap.size ≤ gb157)); have n7_ := Aside0.mk ((by rw [hg]; exact Nat.ne_of_lt (blk_lt (g := gb137) (o := .cells #[.int .u32 t134, .int .i64 t135] 31 (0, 0)) (by (with_reducible repeat (first | refine blk_drewN ?_ _ | refine blk_drew ?_ | refine blk_alloc ?_ _)); exact BK137.out)) : gb137 ≠ gb157)); have n8_ := Aside0.mk ((by rw [hg]; exact Nat.ne_of_gt (blk_lt (g := gb137) (o := .cells #[.int .u32 t134, .int .i64 t135] 31 (0, 0)) (by (with_reducible repeat (first | refine blk_drewN ?_ _ | refine blk_drew ?_ | refine blk_alloc ?_ _)); exact BK137.out)) : gb157 ≠ gb137)); have n9_ := Aside0.mk ((by rw [hg]; exact Nat.ne_of_lt (blk_lt (g := gb141) (o := .cells #[.int .u32 t138, .int .i64 t139] 31 (0, 0)) (by (with_reducible repeat (first | refine blk_drewN ?_ _ | refine blk_drew ?_ | refine blk_alloc ?_ _)); exact BK141.out)) : gb141 ≠ gb157)); have n10_ := Aside0.mk ((by rw [hg]; exact Nat.ne_of_gt (blk_lt (g := gb141) (o := .cells #[.int .u32 t138, .int .i64 t139] 31 (0, 0)) (by (with_reducible repeat (first | refine blk_drewN ?_ _ | refine blk_drew ?_ | refine blk_alloc ?_ _)); exact BK141.out)) : gb157 ≠ gb141)); have n11_ := Aside0.mk ((by rw [hg]; exact Nat.ne_of_lt (blk_lt (g := gb149) (o := .cells #[.int .u8 t142, .int .u8 t143, .int .u8 t144, .int .u8 t145, .int .u8 t146, .int .u8 t147] 33 (0, 0)) (by (with_reducible repeat (first | refine blk_drewN ?_ _ | refine blk_drew ?_ | refine blk_alloc ?_ _)); exact BK149.out)) : gb149 ≠ gb157)); have n12_ := Aside0.mk ((by rw [hg]; exact Nat.ne_of_gt (blk_lt (g := gb149) (o := .cells #[.int .u8 t142, .int .u8 t143, .int .u8 t144, .int .u8 t145, .int .u8 t146, .int .u8 t147] 33 (0, 0)) (by (with_reducible repeat (first | refine blk_drewN ?_ _ | refine blk_drew ?_ | refine blk_alloc ?_ _)); exact BK149.out)) : gb157 ≠ gb149)); clear BK137; clear BK141; clear BK149; clear HB; have BK137 := n0_; have BK141 := n1_; have BK149 := n2_; have HB := n3_; have BK157 := n4_; have GW157 := n5_; have GE157 := n6_; have NB137_157 := n7_; have NB157_137 := n8_; have NB141_157 := n9_; have NB157_141 := n10_; have NB149_157 := n11_; have NB157_149 := n12_; clear n0_ n1_ n2_ n3_ n4_ n5_ n6_ n7_ n8_ n9_ n10_ n11_ n12_; clear hb hbox hg; have hnb48 := NB157_137.out; have hnc48 := NB137_157.out; have hnb49 := NB157_141.out; have hnc49 := NB141_157.out; have hnb50 := NB157_149.out; have hnc50 := NB149_157.out; have hcz51_0 : w47.cell? ⟨gb157, 0, none⟩ = some (.int .u8 0) := (blk_cell BK157.out 0).trans rfl; have hcz51_1 : w47.cell? ⟨gb157, 1, none⟩ = some (.int .u8 0) := (blk_cell BK157.out 1).trans rfl; have hcz51_2 : w47.cell? ⟨gb157, 2, none⟩ = some (.int .u8 0) := (blk_cell BK157.out 2).trans rfl; have hcz51_3 : w47.cell? ⟨gb157, 3, none⟩ = some (.int .u8 0) := (blk_cell BK157.out 3).trans rfl; have hcz51_4 : w47.cell? ⟨gb157, 4, none⟩ = some (.int .u8 0) := (blk_cell BK157.out 4).trans rfl; have hcz51_5 : w47.cell? ⟨gb157, 5, none⟩ = some (.int .u8 0) := (blk_cell BK157.out 5).trans rfl; have hfz51_0 := blk_frozen BK157.out 0; have hfz51_1 := blk_frozen BK157.out 1; have hfz51_2 := blk_frozen BK157.out 2; have hfz51_3 := blk_frozen BK157.out 3; have hfz51_4 := blk_frozen BK157.out 4; have hfz51_5 := blk_frozen BK157.out 5; have hcz52_0 : w47.cell? ⟨gb149, 0, none⟩ = some (.int .u8 t142) := (blk_cell BK149.out 0).trans rfl; have hcz52_1 : w47.cell? ⟨gb149, 1, none⟩ = some (.int .u8 t143) := (blk_cell BK149.out 1).trans rfl; have hcz52_2 : w47.cell? ⟨gb149, 2, none⟩ = some (.int .u8 t144) := (blk_cell BK149.out 2).trans rfl; have hcz52_3 : w47.cell? ⟨gb149, 3, none⟩ = some (.int .u8 t145) := (blk_cell BK149.out 3).trans rfl; have hcz52_4 : w47.cell? ⟨gb149, 4, none⟩ = some (.int .u8 t146) := (blk_cell BK149.out 4).trans rfl; have hcz52_5 : w47.cell? ⟨gb149, 5, none⟩ = some (.int .u8 t147) := (blk_cell BK149.out 5).trans rfl; have hfz52_0 := blk_frozen BK149.out 0; have hfz52_1 := blk_frozen BK149.out 1; have hfz52_2 := blk_frozen BK149.out 2; have hfz52_3 := blk_frozen BK149.out 3; have hfz52_4 := blk_frozen BK149.out 4; have hfz52_5 := blk_frozen BK149.out 5))
                go_ret
                exact ⟨by first | rfl | (simp [errW_none, errW_some] <;> rfl) | (simp [*, errW_none, errW_some] <;> rfl), by repeat (first | (with_reducible first | exact HB.out | apply below_alloc | apply pw_below_drewN | apply below_drew1 | refine below_set ?_ GE137.out | refine below_set ?_ GE141.out | refine below_set ?_ GE149.out | refine below_set ?_ GE157.out) | exact HB.out)⟩

/-! ### addr_digits: function 43 -/
def addr_digits.f : Nat → Int → Option (ByteArray)
  | 0, _ => none
  | k + 1, a0 => (some (([(wrap64 (48 + (Int.tmod a0 10))) % 256] : List Int) : List Int)).bind fun y158 => (if a0 ≥ 10 then ((addr_digits.f k (wrap64 (Int.tdiv a0 10))).bind fun t161 => (if t161.size + (strOfNums y158).size ≤ 9223372036854775807 then (some (t161 ++ (strOfNums y158))) else (none))) else (some (strOfNums y158)))
theorem addr_digits.mono_l : ∀ k, (∀ y0, LeO (addr_digits.f k y0) (addr_digits.f (k + 1) y0))
  | 0 => fun _ r h => by simp [addr_digits.f] at h
  | k + 1 => by
    have ih0 := addr_digits.mono_l k
    · intro y0
      unfold addr_digits.f
      repeat' first
      | (with_reducible exact ih0 _)
      | (with_reducible exact LeO.refl _)
      | (with_reducible exact LeO.none _)
      | (with_reducible refine LeO.ite ?_ ?_)
      | (with_reducible refine LeO.bind ?_ (fun _ => ?_))
      | exact ih0 _
      | exact LeO.none _
      | refine LeO.ite ?_ ?_
      | refine LeO.bind ?_ (fun _ => ?_)
theorem addr_digits.mono : ∀ a0 k, LeO (addr_digits.f k a0) (addr_digits.f (k + 1) a0) := by
  intro a0 k
  have ih0 := addr_digits.mono_l k
  exact ih0 a0
set_option maxHeartbeats 8000000 in
set_option maxRecDepth 100000 in
theorem addr_digits.calls (k : Nat) : ∀ (a0 : Int) (r : ByteArray) (w : World) (h : addr_digits.f k a0 = some r),
    Calls Tryd.prog 43 #[.int .i64 a0] w fun e w' => e = .returned (.string r) ∧ Below w.heap.size w w' := by
  induction k using Nat.strongRecOn with
  | _ k ih =>
  intro a0 r w h
  cases k with
  | zero => exact absurd h (by simp [addr_digits.f])
  | succ k =>
  simp only [addr_digits.f] at h
  have HB := Aside0.mk (Below.refl w.heap.size w)
  have H : ((some (([(wrap64 (48 + (Int.tmod a0 10))) % 256] : List Int) : List Int)).bind fun y158 => (if a0 ≥ 10 then ((addr_digits.f k (wrap64 (Int.tdiv a0 10))).bind fun t161 => (if t161.size + (strOfNums y158).size ≤ 9223372036854775807 then (some (t161 ++ (strOfNums y158))) else (none))) else (some (strOfNums y158)))) = some r := h
  clear h
  obtain ⟨y158, hy158⟩ : ∃ y_ : List Int, y_ = (([(wrap64 (48 + (Int.tmod a0 10))) % 256] : List Int)) := ⟨_, rfl⟩
  replace H : (if a0 ≥ 10 then ((addr_digits.f k (wrap64 (Int.tdiv a0 10))).bind fun t161 => (if t161.size + (strOfNums y158).size ≤ 9223372036854775807 then (some (t161 ++ (strOfNums y158))) else (none))) else (some (strOfNums y158))) = some r := by first | (rw [hy158]; with_reducible exact H) | (have H2_ := (Option.bind_some _ _).symm.trans H; rw [hy158]; with_reducible exact H2_) | (have H2_ := (Option.bind_some _ _).symm.trans H; with_reducible exact H2_) | with_reducible exact H | (rw [hy158]; exact H) | exact H
  have Ny158 := Aside0.mk hy158
  clear hy158
  by_cases c2 : a0 ≥ 10
  · rw [if_pos c2] at H
    have c2b0 : decide (10 ≤ a0) = true := decide_eq_true c2
    clear c2
    replace H := Option.bind_eq_some_iff.mp H
    obtain ⟨t161, A30, H⟩ := H
    replace H : (if t161.size + (strOfNums y158).size ≤ 9223372036854775807 then (some (t161 ++ (strOfNums y158))) else (none)) = some r := H
    have A3 := Aside0.mk A30
    clear A30
    by_cases c4 : t161.size + (strOfNums y158).size ≤ 9223372036854775807
    · rw [if_pos c4] at H
      have c4b0 := eq_true c4
      have c4b1 : decide (t161.size + (strOfNums y158).size ≤ 9223372036854775807) = true := decide_eq_true c4
      try have c4b2 : (9223372036854775807 < t161.size + (strOfNums y158).size) = False := eq_false (Nat.not_lt.2 c4)
      obtain rfl := Option.some.inj H
      go_enter Tryd.func43, Tryd.ntmps43
      go_wp2_with (first | ((with_reducible refine gate_dst (N := 8) rfl ?_); refine Kd.R_lit (Kd.int .u8) _ 5 ?hg (N := 8) ?hd (xs := ([(wrap64 (48 + (Int.tmod a0 10))) % 256] : List Int)) (inner := [.int .u8 ((wrap64 (48 + (Int.tmod a0 10))) % 256)]) (ok := fun _ => True) (okp := fun _ => True) ?hr ?hp (fun _ hk => hk) trivial (Below.refl _ _) (Nat.le_refl _) (by simp) ?_; (case hd => rfl); (case hg => rfl); (case hr => first | (go_simp; done) | (go_simp; rfl)); (case hp => exact (Reps.one (show Kd.M (Kd.int .u8) _ _ _ ((wrap64 (48 + (Int.tmod a0 10))) % 256) [.int .u8 ((wrap64 (48 + (Int.tmod a0 10))) % 256)] from rfl) (Reps.none _ _))); intro v159 w5 ho6 hb hg_ hnew_; clear hg_ hnew_; (first | rw [← Ny158.out] at ho6 | (simp only [Int.reduceToNat] at ho6; rw [← Ny158.out] at ho6)); have n0_ := Aside0.mk (Kd.R_lower ho6 (below_size (by repeat (first | (with_reducible first | exact HB.out | apply below_alloc | apply pw_below_drewN | apply below_drew1) | exact HB.out)))); have n1_ := Aside0.mk (below_step (by repeat (first | (with_reducible first | exact HB.out | apply below_alloc | apply pw_below_drewN | apply below_drew1) | exact HB.out)) hb); clear HB; have HO160 := n0_; have HB := n1_; clear n0_ n1_; clear hb ho6; have hcv7 := own_string (P := Tryd.prog) Tryd.underlying76 Tryd.underlying5 Tryd.underlying9 (Kd.own_of_R HO160.out)) | ((with_reducible refine gate_callee (f := 43) rfl ?_); refine goesL_ (some 14) rfl rfl Tryd.func43 (by kernel_rfl) rfl #[.int .i64 (wrap64 (Int.tdiv a0 10))] rfl (by (try simp only [List.map_toArray, List.map_cons, List.map_nil]); first | done | rfl | (simp only [List.length_drop, List.length_take]; rfl)) ?_; (with_reducible refine (ih k (by omega) (wrap64 (Int.tdiv a0 10)) t161 _ A3.out).mono ?_); rintro e w8 ⟨rfl, hb⟩; refine ⟨_, rfl, ?_⟩; have n0_ := Aside0.mk (Kd.R_below (by (with_reducible repeat (first | apply Kd.R_alloc | apply Kd.R_drewN | apply Kd.R_drew)); exact HO160.out) hb); have n1_ := Aside0.mk (below_step (by repeat (first | (with_reducible first | exact HB.out | apply below_alloc | apply pw_below_drewN | apply below_drew1) | exact HB.out)) hb); clear HO160; clear HB; have HO160 := n0_; have HB := n1_; clear n0_ n1_; (try clear hb); (try clear hb2); (try clear hk); (try clear hi)))
      go_ret
      exact ⟨by first | rfl | (simp [errW_none, errW_some] <;> rfl) | (simp [*, errW_none, errW_some] <;> rfl), by repeat (first | (with_reducible first | exact HB.out | apply below_alloc | apply pw_below_drewN | apply below_drew1) | exact HB.out)⟩
    · rw [if_neg c4] at H
      exact absurd H (by simp)
  · rw [if_neg c2] at H
    have c2b0 : decide (10 ≤ a0) = false := decide_eq_false c2
    clear c2
    obtain rfl := Option.some.inj H
    go_enter Tryd.func43, Tryd.ntmps43
    go_wp2_with (first | ((with_reducible refine gate_dst (N := 8) rfl ?_); refine Kd.R_lit (Kd.int .u8) _ 5 ?hg (N := 8) ?hd (xs := ([(wrap64 (48 + (Int.tmod a0 10))) % 256] : List Int)) (inner := [.int .u8 ((wrap64 (48 + (Int.tmod a0 10))) % 256)]) (ok := fun _ => True) (okp := fun _ => True) ?hr ?hp (fun _ hk => hk) trivial (Below.refl _ _) (Nat.le_refl _) (by simp) ?_; (case hd => rfl); (case hg => rfl); (case hr => first | (go_simp; done) | (go_simp; rfl)); (case hp => exact (Reps.one (show Kd.M (Kd.int .u8) _ _ _ ((wrap64 (48 + (Int.tmod a0 10))) % 256) [.int .u8 ((wrap64 (48 + (Int.tmod a0 10))) % 256)] from rfl) (Reps.none _ _))); intro v159 w9 ho10 hb hg_ hnew_; clear hg_ hnew_; (first | rw [← Ny158.out] at ho10 | (simp only [Int.reduceToNat] at ho10; rw [← Ny158.out] at ho10)); have n0_ := Aside0.mk (Kd.R_lower ho10 (below_size (by repeat (first | (with_reducible first | exact HB.out | apply below_alloc | apply pw_below_drewN | apply below_drew1) | exact HB.out)))); have n1_ := Aside0.mk (below_step (by repeat (first | (with_reducible first | exact HB.out | apply below_alloc | apply pw_below_drewN | apply below_drew1) | exact HB.out)) hb); clear HB; have HO160 := n0_; have HB := n1_; clear n0_ n1_; clear hb ho10; have hcv11 := own_string (P := Tryd.prog) Tryd.underlying76 Tryd.underlying5 Tryd.underlying9 (Kd.own_of_R HO160.out)))
    go_ret
    exact ⟨by first | rfl | (simp [errW_none, errW_some] <;> rfl) | (simp [*, errW_none, errW_some] <;> rfl), by repeat (first | (with_reducible first | exact HB.out | apply below_alloc | apply pw_below_drewN | apply below_drew1) | exact HB.out)⟩

/-! ### addr_Format: function 18 -/
def addr_Format.l0 : Nat → Int → ByteArray → Int → Option (ByteArray)
  | 0, _, _, _ => none
  | k + 1, x0, x3, x5 => if x5 < 4 then (if x5 > 0 then (if x3.size + 1 ≤ 9223372036854775807 then (if 0 ≤ (wrap64 (24 - (wrap64 (8 * x5)))) then ((addr_digits.f k (wrap64 (Go.bits .and .u32 (shr .u32 x0 (wrap64 (24 - (wrap64 (8 * x5))))) 255))).bind fun t162 => (if (x3 ++ (⟨#[46]⟩ : ByteArray)).size + t162.size ≤ 9223372036854775807 then (addr_Format.l0 k x0 ((x3 ++ (⟨#[46]⟩ : ByteArray)) ++ t162) (wrap64 (x5 + 1))) else (none))) else (none)) else (none)) else (if 0 ≤ (wrap64 (24 - (wrap64 (8 * x5)))) then ((addr_digits.f k (wrap64 (Go.bits .and .u32 (shr .u32 x0 (wrap64 (24 - (wrap64 (8 * x5))))) 255))).bind fun t163 => (if x3.size + t163.size ≤ 9223372036854775807 then (addr_Format.l0 k x0 (x3 ++ t163) (wrap64 (x5 + 1))) else (none))) else (none))) else (some x3)
def addr_Format.f (k : Nat) (a0 : Int) : Option (ByteArray) := addr_Format.l0 k a0 (⟨#[]⟩ : ByteArray) 0
theorem addr_Format.mono_l : ∀ k, (∀ y0 y1 y2, LeO (addr_Format.l0 k y0 y1 y2) (addr_Format.l0 (k + 1) y0 y1 y2))
  | 0 => fun _ _ _ r h => by simp [addr_Format.l0] at h
  | k + 1 => by
    have ih0 := addr_Format.mono_l k
    · intro y0 y1 y2
      unfold addr_Format.l0
      repeat' first
      | (with_reducible exact ih0 _ _ _)
      | (with_reducible exact addr_digits.mono _ _)
      | (with_reducible exact LeO.refl _)
      | (with_reducible exact LeO.none _)
      | (with_reducible refine LeO.ite ?_ ?_)
      | (with_reducible refine LeO.bind ?_ (fun _ => ?_))
      | exact ih0 _ _ _
      | exact addr_digits.mono _ _
      | exact LeO.none _
      | refine LeO.ite ?_ ?_
      | refine LeO.bind ?_ (fun _ => ?_)
theorem addr_Format.mono : ∀ a0 k, LeO (addr_Format.f k a0) (addr_Format.f (k + 1) a0) := by
  intro a0 k
  have ih0 := addr_Format.mono_l k
  unfold addr_Format.f
  repeat' first
      | (with_reducible exact ih0 _ _ _)
      | (with_reducible exact addr_digits.mono _ _)
      | (with_reducible exact LeO.refl _)
      | (with_reducible exact LeO.none _)
      | (with_reducible refine LeO.ite ?_ ?_)
      | (with_reducible refine LeO.bind ?_ (fun _ => ?_))
      | exact ih0 _ _ _
      | exact addr_digits.mono _ _
      | exact LeO.none _
      | refine LeO.ite ?_ ?_
      | refine LeO.bind ?_ (fun _ => ?_)
set_option maxHeartbeats 8000000 in
set_option maxRecDepth 100000 in
theorem addr_Format.calls (k : Nat) (a0 : Int) (r : ByteArray) (w : World) (h : addr_Format.f k a0 = some r) :
    Calls Tryd.prog 18 #[.int .u32 a0] w fun e w' => e = .returned (.string r) ∧ Below w.heap.size w w' := by
  have HB := Aside0.mk (Below.refl w.heap.size w)
  have H : (addr_Format.l0 k a0 (⟨#[]⟩ : ByteArray) 0) = some r := h
  clear h
  have H' := Aside0.mk H
  clear H
  go_enter Tryd.func18, Tryd.ntmps18
  go_wp2
  go_loopg [3, 5] k (fun kq v3 v5 w' => ∃ (x3_1 : ByteArray) (x5_1 : Int), v3 = .string x3_1 ∧ v5 = .int .i64 x5_1 ∧ Aside0 (addr_Format.l0 kq a0 x3_1 x5_1 = some r) ∧ Aside0 (kq ≤ k) ∧ Aside0 (Below w.heap.size w w'))
  case atStart => exact ⟨((⟨#[]⟩ : ByteArray)), (0), (by first | rfl | (simp; done) | (simp [*]; done)), (by first | rfl | (simp; done) | (simp [*]; done)), H', ⟨Nat.le_refl _⟩, ⟨by repeat (first | (with_reducible first | exact HB.out | apply below_alloc | apply pw_below_drewN | apply below_drew1) | exact HB.out)⟩⟩
  case round =>
    clear H'
    try clear c1
    obtain ⟨x3_1, x5_1, rfl, rfl, HA, HK1, HB⟩ := hrel
    cases gk with
    | zero => exact absurd HA.out (by simp [addr_Format.l0])
    | succ k1 =>
      have H := HA.out
      clear HA
      simp only [addr_Format.l0] at H
      by_cases c2 : x5_1 < 4
      · rw [if_pos c2] at H
        have c2b0 : decide (x5_1 < 4) = true := decide_eq_true c2
        clear c2
        by_cases c3 : x5_1 > 0
        · rw [if_pos c3] at H
          have c3b0 : decide (0 < x5_1) = true := decide_eq_true c3
          clear c3
          by_cases c4 : x3_1.size + 1 ≤ 9223372036854775807
          · rw [if_pos c4] at H
            have c4b0 := eq_true c4
            have c4b1 : decide (x3_1.size + 1 ≤ 9223372036854775807) = true := decide_eq_true c4
            try have c4b2 : (9223372036854775807 < x3_1.size + 1) = False := eq_false (Nat.not_lt.2 c4)
            obtain ⟨ji5, hji5⟩ : ∃ j_ : Int, (wrap64 (24 - (wrap64 (8 * x5_1)))) = j_ := ⟨_, rfl⟩
            replace H : (if 0 ≤ (ji5) then ((addr_digits.f k1 (wrap64 (Go.bits .and .u32 (shr .u32 a0 (ji5)) 255))).bind fun t162 => (if (x3_1 ++ (⟨#[46]⟩ : ByteArray)).size + t162.size ≤ 9223372036854775807 then (addr_Format.l0 k1 a0 ((x3_1 ++ (⟨#[46]⟩ : ByteArray)) ++ t162) (wrap64 (x5_1 + 1))) else (none))) else (none)) = some r := by first | (rw [hji5] at H; exact H) | (simp only [hji5] at H ⊢; exact H)
            have hji5w : (IntKind.i64.wrap (24 - (wrap64 (8 * x5_1)))) = ji5 := (i64_w _).trans hji5
            by_cases c6 : 0 ≤ (ji5)
            · rw [if_pos c6] at H
              have c6b0 := eq_true c6
              have c6b1 : decide (0 ≤ (ji5)) = true := decide_eq_true c6
              clear c6
              obtain ⟨ji7, hji7⟩ : ∃ j_ : Int, (shr .u32 a0 (ji5)) = j_ := ⟨_, rfl⟩
              replace H : ((addr_digits.f k1 (wrap64 (Go.bits .and .u32 (ji7) 255))).bind fun t162 => (if (x3_1 ++ (⟨#[46]⟩ : ByteArray)).size + t162.size ≤ 9223372036854775807 then (addr_Format.l0 k1 a0 ((x3_1 ++ (⟨#[46]⟩ : ByteArray)) ++ t162) (wrap64 (x5_1 + 1))) else (none))) = some r := by first | (rw [hji7] at H; exact H) | (simp only [hji7] at H ⊢; exact H)
              have hji7_ : (a0 / 2 ^ min (ji5).toNat 32) = ji7 := hji7
              have hji7z : (ji5) ≤ 32 → (a0 / 2 ^ (ji5).toNat) = ji7 := shr_small hji7
              replace H := Option.bind_eq_some_iff.mp H
              obtain ⟨t162, A80, H⟩ := H
              replace H : (if (x3_1 ++ (⟨#[46]⟩ : ByteArray)).size + t162.size ≤ 9223372036854775807 then (addr_Format.l0 k1 a0 ((x3_1 ++ (⟨#[46]⟩ : ByteArray)) ++ t162) (wrap64 (x5_1 + 1))) else (none)) = some r := H
              have A8 := Aside0.mk A80
              clear A80
              by_cases c9 : (x3_1 ++ (⟨#[46]⟩ : ByteArray)).size + t162.size ≤ 9223372036854775807
              · rw [if_pos c9] at H
                have c9b0 := eq_true c9
                have c9b1 : decide ((x3_1 ++ (⟨#[46]⟩ : ByteArray)).size + t162.size ≤ 9223372036854775807) = true := decide_eq_true c9
                try have c9b2 : (9223372036854775807 < (x3_1 ++ (⟨#[46]⟩ : ByteArray)).size + t162.size) = False := eq_false (Nat.not_lt.2 c9)
                have c9y := c9
                (try simp [go_sem] at c9y)
                (try have c9z : _ = False := eq_false (Nat.not_lt.2 c9y))
                have H' := Aside0.mk H
                clear H
                go_wp2_with (first | ((with_reducible refine gate_callee (f := 43) rfl ?_); refine goesL_ (some 20) rfl rfl Tryd.func43 (by kernel_rfl) rfl #[.int .i64 (wrap64 (Go.bits .and .u32 (ji7) 255))] rfl (by (try simp only [List.map_toArray, List.map_cons, List.map_nil]); first | done | (simp only [hji7]; rfl) | rfl | (simp only [List.length_drop, List.length_take]; rfl)) ?_; (with_reducible refine (addr_digits.calls k1 (wrap64 (Go.bits .and .u32 (ji7) 255)) t162 _ A8.out).mono ?_); rintro e w10 ⟨rfl, hb⟩; refine ⟨_, rfl, ?_⟩; have n0_ := Aside0.mk (below_step (by repeat (first | (with_reducible first | exact HB.out | apply below_alloc | apply pw_below_drewN | apply below_drew1) | exact HB.out)) hb); clear HB; have HB := n0_; clear n0_; (try clear hb); (try clear hb2); (try clear hk); (try clear hi)))
                go_roundg k1
                case measure => have := HK1.out; omega
                case rel => exact ⟨((x3_1 ++ (⟨#[46]⟩ : ByteArray)) ++ t162), (wrap64 (x5_1 + 1)), (by first | rfl | (simp; done) | (simp [*]; done)), (by first | rfl | (simp; done) | (simp [*]; done)), H', ⟨by have := HK1.out; omega⟩, ⟨by repeat (first | (with_reducible first | exact HB.out | apply below_alloc | apply pw_below_drewN | apply below_drew1) | exact HB.out)⟩⟩
              · rw [if_neg c9] at H
                exact absurd H (by simp)
            · rw [if_neg c6] at H
              exact absurd H (by simp)
          · rw [if_neg c4] at H
            exact absurd H (by simp)
        · rw [if_neg c3] at H
          have c3b0 : decide (0 < x5_1) = false := decide_eq_false c3
          clear c3
          obtain ⟨ji11, hji11⟩ : ∃ j_ : Int, (wrap64 (24 - (wrap64 (8 * x5_1)))) = j_ := ⟨_, rfl⟩
          replace H : (if 0 ≤ (ji11) then ((addr_digits.f k1 (wrap64 (Go.bits .and .u32 (shr .u32 a0 (ji11)) 255))).bind fun t163 => (if x3_1.size + t163.size ≤ 9223372036854775807 then (addr_Format.l0 k1 a0 (x3_1 ++ t163) (wrap64 (x5_1 + 1))) else (none))) else (none)) = some r := by first | (rw [hji11] at H; exact H) | (simp only [hji11] at H ⊢; exact H)
          have hji11w : (IntKind.i64.wrap (24 - (wrap64 (8 * x5_1)))) = ji11 := (i64_w _).trans hji11
          by_cases c12 : 0 ≤ (ji11)
          · rw [if_pos c12] at H
            have c12b0 := eq_true c12
            have c12b1 : decide (0 ≤ (ji11)) = true := decide_eq_true c12
            clear c12
            obtain ⟨ji13, hji13⟩ : ∃ j_ : Int, (shr .u32 a0 (ji11)) = j_ := ⟨_, rfl⟩
            replace H : ((addr_digits.f k1 (wrap64 (Go.bits .and .u32 (ji13) 255))).bind fun t163 => (if x3_1.size + t163.size ≤ 9223372036854775807 then (addr_Format.l0 k1 a0 (x3_1 ++ t163) (wrap64 (x5_1 + 1))) else (none))) = some r := by first | (rw [hji13] at H; exact H) | (simp only [hji13] at H ⊢; exact H)
            have hji13_ : (a0 / 2 ^ min (ji11).toNat 32) = ji13 := hji13
            have hji13z : (ji11) ≤ 32 → (a0 / 2 ^ (ji11).toNat) = ji13 := shr_small hji13
            replace H := Option.bind_eq_some_iff.mp H
            obtain ⟨t163, A140, H⟩ := H
            replace H : (if x3_1.size + t163.size ≤ 9223372036854775807 then (addr_Format.l0 k1 a0 (x3_1 ++ t163) (wrap64 (x5_1 + 1))) else (none)) = some r := H
            have A14 := Aside0.mk A140
            clear A140
            by_cases c15 : x3_1.size + t163.size ≤ 9223372036854775807
            · rw [if_pos c15] at H
              have c15b0 := eq_true c15
              have c15b1 : decide (x3_1.size + t163.size ≤ 9223372036854775807) = true := decide_eq_true c15
              try have c15b2 : (9223372036854775807 < x3_1.size + t163.size) = False := eq_false (Nat.not_lt.2 c15)
              have H' := Aside0.mk H
              clear H
              go_wp2_with (first | ((with_reducible refine gate_callee (f := 43) rfl ?_); refine goesL_ (some 20) rfl rfl Tryd.func43 (by kernel_rfl) rfl #[.int .i64 (wrap64 (Go.bits .and .u32 (ji13) 255))] rfl (by (try simp only [List.map_toArray, List.map_cons, List.map_nil]); first | done | (simp only [hji13]; rfl) | rfl | (simp only [List.length_drop, List.length_take]; rfl)) ?_; (with_reducible refine (addr_digits.calls k1 (wrap64 (Go.bits .and .u32 (ji13) 255)) t163 _ A14.out).mono ?_); rintro e w16 ⟨rfl, hb⟩; refine ⟨_, rfl, ?_⟩; have n0_ := Aside0.mk (below_step (by repeat (first | (with_reducible first | exact HB.out | apply below_alloc | apply pw_below_drewN | apply below_drew1) | exact HB.out)) hb); clear HB; have HB := n0_; clear n0_; (try clear hb); (try clear hb2); (try clear hk); (try clear hi)))
              go_roundg k1
              case measure => have := HK1.out; omega
              case rel => exact ⟨(x3_1 ++ t163), (wrap64 (x5_1 + 1)), (by first | rfl | (simp; done) | (simp [*]; done)), (by first | rfl | (simp; done) | (simp [*]; done)), H', ⟨by have := HK1.out; omega⟩, ⟨by repeat (first | (with_reducible first | exact HB.out | apply below_alloc | apply pw_below_drewN | apply below_drew1) | exact HB.out)⟩⟩
            · rw [if_neg c15] at H
              exact absurd H (by simp)
          · rw [if_neg c12] at H
            exact absurd H (by simp)
      · rw [if_neg c2] at H
        have c2b0 : decide (x5_1 < 4) = false := decide_eq_false c2
        clear c2
        obtain rfl := Option.some.inj H
        go_wp2
        go_ret
        exact ⟨by first | rfl | (simp [errW_none, errW_some] <;> rfl) | (simp [*, errW_none, errW_some] <;> rfl), by repeat (first | (with_reducible first | exact HB.out | apply below_alloc | apply pw_below_drewN | apply below_drew1) | exact HB.out)⟩

end Go.Proofs.YtncpcjphljfcpaaDoor.PScr
