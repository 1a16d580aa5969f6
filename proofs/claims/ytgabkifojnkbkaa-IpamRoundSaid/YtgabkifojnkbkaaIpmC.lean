/- Which texts are names: both answers alike; equal lists of pods are told to be equal. -/
import Derived.Test.YtgabkifojnkbkaaIpmB
set_option linter.unusedVariables false
set_option linter.unusedSimpArgs false
namespace Go.Proofs.Ytgabkifojnkbkaa.Ip
open Go.RowKit Go.Maps Go.Sort Go.Shelf Go.WideMaps Go.MapKept Go.Proofs.YtgabkifojnkbkaaW.PrintWords Go.Proofs.Ytgabkifojnkbkaa.PIpf
theorem named_l0 (x : ByteArray) : ∀ (k : Nat) (i : Int), ipam_nameOK.l0 k x (x.size : Int) i = weftref15_Named.l0 k x i
  | 0, i => by rw [ipam_nameOK.l0, weftref15_Named.l0]
  | k + 1, i => by
    rw [ipam_nameOK.l0, weftref15_Named.l0]
    by_cases h : i < (x.size : Int)
    · simp only [if_pos h, named_l0 x k]
    · simp only [if_neg h]
theorem named_j0 (x : ByteArray) : ∀ (k : Nat) (b : Bool), ipam_nameOK.j0 k x b = weftref15_Named.j0 k x b
  | 0, b => by rw [ipam_nameOK.j0, weftref15_Named.j0]
  | k + 1, b => by rw [ipam_nameOK.j0, weftref15_Named.j0]; simp only [named_l0]
theorem named_f (k : Nat) (x : ByteArray) : ipam_nameOK.f k x = weftref15_Named.f k x := by
  rw [ipam_nameOK.f, weftref15_Named.f]
  simp only [named_j0]
theorem wrap64_one {i : Int} (h0 : 0 ≤ i) (h1 : i < 9223372036854775807) : wrap64 (i + 1) = i + 1 := by unfold wrap64; omega
theorem named_l0_ends (x : ByteArray) (hx : x.size ≤ maxLen) : ∀ (n : Nat) (i : Int), 0 ≤ i → (x.size : Int) - i ≤ n → ∃ b, weftref15_Named.l0 (n + 1) x i = some b
  | 0, i, h0, h1 => by
    rw [weftref15_Named.l0]
    rw [if_neg (by omega)]
    exact ⟨_, rfl⟩
  | n + 1, i, h0, h1 => by
    rw [weftref15_Named.l0]
    by_cases h : i < (x.size : Int)
    · have hm : (x.size : Int) ≤ 9223372036854775807 := by unfold maxLen at hx; omega
      obtain ⟨b, hb⟩ := named_l0_ends x hx n (i + 1) (by omega) (by omega)
      simp only [if_pos h, if_pos h0, wrap64_one h0 (by omega), hb]
      repeat' split
      all_goals exact ⟨_, rfl⟩
    · rw [if_neg h]; exact ⟨_, rfl⟩
theorem named_ends (x : ByteArray) (hx : x.size ≤ maxLen) : ∃ k b, weftref15_Named.f k x = some b := by
  obtain ⟨b, hb⟩ := named_l0_ends x hx x.size 0 (by omega) (by omega)
  refine ⟨x.size + 2, ?_⟩
  have hj : ∀ c, ∃ b, weftref15_Named.j0 (x.size + 2) x c = some b := by
    intro c
    rw [weftref15_Named.j0]
    split
    · exact ⟨_, rfl⟩
    · exact ⟨_, hb⟩
  rw [weftref15_Named.f]
  by_cases h1 : (x.size : Int) < 1
  · rw [if_pos h1]; exact hj _
  · rw [if_neg h1]
    have hw : wrap64 ((x.size : Int) - 1) = (x.size : Int) - 1 := by unfold wrap64; unfold maxLen at hx; omega
    split
    · exact hj _
    · rw [if_pos (by omega), hw]
      split
      · exact hj _
      · rw [if_pos (by omega), if_pos (by omega)]; exact hj _
/-- is this text a name? -/
theorem named_both (x : ByteArray) (hx : x.size ≤ maxLen) : ∃ k b, ipam_nameOK.f k x = some b ∧ weftref15_Named.f k x = some b := by
  obtain ⟨k, b, h⟩ := named_ends x hx
  exact ⟨k, b, by rw [named_f]; exact h, h⟩
set_option maxHeartbeats 8000000 in
set_option maxRecDepth 100000 in
theorem pods_same (w : World) (B1 B2 : Nat) (v1 v2 : Value) (l : List Pod) (hl : l.length ≤ 4096) (h1 : w.ownsRow B1 84 2 v1 l.length (podCells l)) (h2 : w.ownsRow B2 84 2 v2 l.length (podCells l)) :
    Calls Try.prog 41 #[v1, v2] w fun e w' => e = .returned (.bool true) ∧ Below w.heap.size w w' := by
  obtain ⟨A1, c1, rfl⟩ := own_slice h1
  obtain ⟨A2, c2, rfl⟩ := own_slice h2
  have H1 := Aside0.mk h1
  have H2 := Aside0.mk h2
  clear h1 h2
  go_enter Try.func41, Try.ntmps41
  go_wp2
  go_loopw [5] (fun vi wr => ∃ (i : Nat), vi = .int .i64 i ∧ i ≤ l.length ∧ Aside0 (wr.ownsRow B1 84 2 (.slice A1 l.length c1) l.length (podCells l)) ∧ Aside0 (wr.ownsRow B2 84 2 (.slice A2 l.length c2) l.length (podCells l)) ∧ Aside0 (Below w.heap.size w wr)) (fun vi _ => l.length - (intOf vi).toNat)
  case atStart => exact ⟨0, rfl, by omega, H1, H2, ⟨Below.refl _ _⟩⟩
  case round =>
    clear H1 H2
    obtain ⟨i, rfl, hi, H1, H2, HB⟩ := hrel
    by_cases hlt : i < l.length
    · have hli : (i : Int) < (l.length : Int) := by omega
      obtain ⟨g1, cap1, e, _, _⟩ := H1.out.form (by omega)
      injection e with e1 e2 e3
      subst e1 e3
      clear e2
      obtain ⟨g2, cap2, e, _, _⟩ := H2.out.form (by omega)
      injection e with e1 e2 e3
      subst e1 e3
      clear e2
      obtain ⟨a0, a1⟩ := pod_atN H1.out i hlt
      obtain ⟨b0, b1⟩ := pod_atN H2.out i hlt
      generalize podAt l i = pd at *
      obtain ⟨nm, ad⟩ := pd
      simp only at a0 a1 b0 b1
      go_wp2
      go_quiet (fail)
      go_wp2
      go_roundw
      case rel => exact ⟨i + 1, by go_num, by omega, ⟨H1.out⟩, ⟨H2.out⟩, ⟨pw_below_drewN HB.out _⟩⟩
      case measure => simp [intOf]; omega
    · go_wp2
      go_ret
      exact ⟨rfl, HB.out⟩
end Go.Proofs.Ytgabkifojnkbkaa.Ip
