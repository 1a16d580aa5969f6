/- The reference's Taken walked. Conditions: the pool is as it is made. -/
import Derived.Test.YtebnlhjakiipjaaPrB
set_option linter.unusedVariables false
set_option linter.unusedSimpArgs false
namespace Go.Proofs.Ytebnlhjakiipjaa.Pl
open Go.RowKit Go.Maps Go.Proofs.YtebnlhjakiipjaaW.PrintWords Go.Proofs.YtebnlhjakiipjaaW.PrintMore Go.Proofs.YtebnlhjakiipjaaW.PrintLast Go.Proofs.Ytebnlhjakiipjaa.PPlf
/-- the least above 'last', -1 where there is none -/
def bestS (last b t : Int) : Int := if last < t ∧ (b < 0 ∨ t < b) then t else b
def bestF (last : Int) (l : List Int) : Int := l.foldl (bestS last) (-1)
theorem bestF_snoc (last t : Int) (l : List Int) : bestF last (l ++ [t]) = bestS last (bestF last l) t := by unfold bestF; rw [List.foldl_append]; rfl
theorem best_spec (last : Int) : ∀ (l : List Int) (b : Int), (∀ t, t ∈ l → 0 ≤ t) → (l.foldl (bestS last) b = b ∨ (l.foldl (bestS last) b ∈ l ∧ last < l.foldl (bestS last) b)) ∧ (∀ t, t ∈ l → last < t → 0 ≤ l.foldl (bestS last) b ∧ l.foldl (bestS last) b ≤ t) ∧ (0 ≤ b → 0 ≤ l.foldl (bestS last) b ∧ l.foldl (bestS last) b ≤ b)
  | [], b, h => by
    refine ⟨.inl rfl, ?_, ?_⟩
    · intro t ht
      cases ht
    · intro hb
      exact ⟨hb, Int.le_refl _⟩
  | t :: l, b, h => by
    rw [List.foldl_cons]
    have ht := h t (List.mem_cons_self ..)
    obtain ⟨i1, i2, i3⟩ := best_spec last l (bestS last b t) (fun x hx => h x (List.mem_cons_of_mem _ hx))
    generalize l.foldl (bestS last) (bestS last b t) = r at *
    unfold bestS at i1 i3
    by_cases c : last < t ∧ (b < 0 ∨ t < b)
    · rw [if_pos c] at i1 i3
      refine ⟨.inr ?_, fun x hx hl => ?_, fun hb => by have := i3 ht; omega⟩
      · rcases i1 with h1 | h1
        · rw [h1]; exact ⟨List.mem_cons_self .., c.1⟩
        · exact ⟨List.mem_cons_of_mem _ h1.1, h1.2⟩
      · rcases List.mem_cons.1 hx with rfl | hx
        · exact i3 ht
        · exact i2 x hx hl
    · rw [if_neg c] at i1 i3
      refine ⟨?_, fun x hx hl => ?_, i3⟩
      · rcases i1 with h1 | h1
        · exact .inl h1
        · exact .inr ⟨List.mem_cons_of_mem _ h1.1, h1.2⟩
      · rcases List.mem_cons.1 hx with rfl | hx
        · have hb : 0 ≤ b ∧ b ≤ x := by omega
          have := i3 hb.1
          omega
        · exact i2 x hx hl
theorem best_all {last m : Int} {T : List Int} (h0 : ∀ t, t ∈ T → 0 ≤ t) (hm : m ∈ T) (hl : last < m) (hmin : ∀ t, t ∈ T → last < t → m ≤ t) : bestF last T = m := by
  obtain ⟨h1, h2, _⟩ := best_spec last T (-1) h0
  have h3 := h2 m hm hl
  unfold bestF
  rcases h1 with h1 | h1
  · omega
  · have := hmin _ h1.1 h1.2; omega
/-- the one before the j-th -/
def lastF (P : List Int) (j : Nat) : Int := if j = 0 then -1 else P.getD (j - 1) 0
theorem best_next {P T : List Int} (hr : P.Pairwise (· < ·)) (h0 : ∀ t, t ∈ P → 0 ≤ t) (hm : ∀ t, t ∈ T ↔ t ∈ P) {j : Nat} (hj : j < P.length) : bestF (lastF P j) T = P[j] := by
  have hp := List.pairwise_iff_getElem.1 hr
  have hlast : ∀ (k : Nat) (hk : k < P.length), lastF P j < P[k] ↔ j ≤ k := fun k hk => by
    unfold lastF
    by_cases c : j = 0
    · rw [if_pos c]
      have := h0 P[k] (List.getElem_mem hk)
      exact ⟨fun _ => by omega, fun _ => by omega⟩
    · rw [if_neg c, List.getD_eq_getElem?_getD, List.getElem?_eq_getElem (show j - 1 < P.length by omega)]
      show P[j - 1] < P[k] ↔ j ≤ k
      constructor
      · intro h
        by_cases c2 : j ≤ k
        · exact c2
        · rcases Nat.lt_or_eq_of_le (show k ≤ j - 1 by omega) with h1 | h1
          · have := hp k (j - 1) hk (by omega) h1; omega
          · subst h1; omega
      · intro h; exact hp (j - 1) k (by omega) hk (by omega)
  refine best_all (fun t ht => h0 t ((hm t).1 ht)) ((hm _).2 (List.getElem_mem hj)) ((hlast j hj).2 (Nat.le_refl _)) (fun t ht hl => ?_)
  obtain ⟨k, hk, rfl⟩ := List.getElem_of_mem ((hm t).1 ht)
  rcases Nat.lt_or_eq_of_le ((hlast k hk).1 hl) with h1 | h1
  · exact Int.le_of_lt (hp j k hj hk h1)
  · subst h1; exact Int.le_refl _
theorem lastF_succ {P : List Int} {j : Nat} (hj : j < P.length) : lastF P (j + 1) = P[j] := by
  unfold lastF
  rw [if_neg (by omega), List.getD_eq_getElem?_getD, Nat.add_sub_cancel, List.getElem?_eq_getElem hj]; rfl
def pxl (s : Int) (P : List Int) : List S27 := P.map (fun k => ⟨k, s⟩)
set_option maxHeartbeats 16000000 in
set_option maxRecDepth 100000 in
theorem taken45 (w : World) (b : Nat) (vk vt : Value) (M : Pm) (K T P : List Int) (h : RS w b vk vt M K T) (hr : P.Pairwise (· < ·)) (hP : ∀ t, t ∈ P → 0 ≤ t ∧ t < 4294967296) (hm : ∀ t, t ∈ T ↔ t ∈ P) (hlen : T.length = P.length) (hl : P.length ≤ 4294967296) :
    Calls Try.prog 45 #[.pointer (some ⟨b, 0, none⟩)] w fun e w' => ∃ v, e = .returned v ∧ Row w' w.heap.size v (pxl M.s P) ∧ Below w.heap.size w w' := by
  have H0 := Aside0.mk h
  have HNX : Aside0 (∀ (j : Nat) (hj : j < P.length), bestF (lastF P j) T = P[j]) := ⟨fun j hj => best_next hr (fun t ht => (hP t ht).1) hm hj⟩
  have HPP := Aside0.mk hP
  have HLL := Aside0.mk (And.intro hlen hl)
  obtain ⟨A, c, hvk⟩ := h.rk.sl
  obtain ⟨A', c', hvt⟩ := h.rt.sl
  subst hvk hvt
  obtain ⟨lo, hlo⟩ : ∃ lo, lo = M.mn * sizeF M.s := ⟨_, rfl⟩
  obtain ⟨hi, hhi⟩ : ∃ hi, hi = M.mx * sizeF M.s := ⟨_, rfl⟩
  have HW : Aside0 (∀ W v, RS W b (.slice A K.length c) v M K T → W.heap[b]? = some (.cells #[.int .u32 M.na, .int .i64 M.nl, .int .i64 M.s, .int .i64 lo, .int .i64 hi, .slice A K.length c, v] 74 (0, 0))) := ⟨fun W v h => by rw [hlo, hhi]; exact h.blk⟩
  clear hlo hhi h hr hP hm hlen hl
  go_enter Try.func45, Try.ntmps45
  go_wp2_with fail
  go_loopg [3, 4] P.length (fun gg v3 v4 wr => ∃ j : Nat, v4 = .int .i64 (lastF P j) ∧ gg = P.length - j ∧ j ≤ P.length ∧ Aside0 (Row wr w.heap.size v3 (pxl M.s (P.take j))) ∧ Aside0 (Below w.heap.size w wr))
  case atStart => exact ⟨0, rfl, rfl, Nat.zero_le _, ⟨Row.nil _ _⟩, ⟨Below.refl _ _⟩⟩
  case round =>
    obtain ⟨j, rfl, hg, hj2, HR, HB⟩ := hrel
    obtain ⟨s3, c3, hv3, _⟩ := Row.C HR.out
    have hpl : (pxl M.s (P.take j)).length = j := by unfold pxl; rw [List.length_map, List.length_take]; omega
    rw [hpl] at hv3
    subst hv3
    have HS := Aside0.mk (H0.out.below HB.out)
    have kc6 := blk_cell (HW.out _ _ HS.out) 6
    have HG := Aside0.mk (And.intro hg hj2)
    have HPL := Aside0.mk hpl
    clear hg hj2 hpl
    by_cases hlt : j < T.length
    · have hii : (j : Int) < (T.length : Int) := by omega
      have hjp : j < P.length := by have := HLL.out.1; omega
      have HN := Aside0.mk (HNX.out j hjp)
      have HLS := Aside0.mk (lastF_succ hjp)
      have HJP := Aside0.mk hjp
      have HPJ := Aside0.mk (HPP.out _ (List.getElem_mem hjp))
      have HTK : Aside0 (pxl M.s (P.take (j + 1)) = pxl M.s (P.take j) ++ [⟨P[j], M.s⟩]) := ⟨by rw [List.take_add_one, List.getElem?_eq_getElem hjp]; unfold pxl; rw [List.map_append]; rfl⟩
      generalize P[j] = m at *
      generalize lastF P j = last at *
      clear hjp hlt
      go_wp2_with fail
      go_loopg [5, 6] T.length (fun gg v5 v6 w2 => ∃ i : Nat, v5 = .int .i64 (bestF last (T.take i)) ∧ v6 = .int .i64 (i : Int) ∧ gg = T.length - i ∧ i ≤ T.length ∧ Aside0 (Below wr.heap.size wr w2))
      case atStart => exact ⟨0, rfl, rfl, rfl, Nat.zero_le _, ⟨Below.refl _ _⟩⟩
      case round =>
        clear kc6
        obtain ⟨i, rfl, rfl, hg, hi2, HB3⟩ := hrel
        have HS3 := Aside0.mk (HS.out.below HB3.out)
        have kc6 := blk_cell (HW.out _ _ HS3.out) 6
        have kc2 := blk_cell (HW.out _ _ HS3.out) 2
        have HGG := Aside0.mk (And.intro hg hi2)
        clear hg
        by_cases hlt : i < T.length
        · have hii : (i : Int) < (T.length : Int) := by omega
          obtain ⟨g, cc, e, k0⟩ := HS3.out.rt.at_ hlt
          injection e with e1 e2 e3
          subst e1
          clear e2 e3
          obtain ⟨t, ht⟩ : ∃ t, t = T[i] := ⟨_, rfl⟩
          rw [← ht] at k0
          have hwi : IntKind.i64.wrap ((i : Int) + 1) = ((i + 1 : Nat) : Int) := by have := HLL.out; rw [wrap64_id (by omega) (by omega)]; omega
          have HLT := Aside0.mk hlt
          obtain ⟨bb, hbb⟩ : ∃ bb, bb = bestF last (T.take i) := ⟨_, rfl⟩
          have HST : Aside0 (bestF last (T.take (i + 1)) = bestS last bb t) := ⟨by rw [hbb, ← bestF_snoc, List.take_add_one, List.getElem?_eq_getElem hlt, ht]; rfl⟩
          rw [← hbb]
          clear ht hlt hi2 hbb
          by_cases q1 : last < t
          · have d1 : decide (last < t) = true := decide_eq_true q1
            by_cases q2 : bb < 0
            · have d2 : decide (bb < 0) = true := decide_eq_true q2
              skip
              have hst : bestF last (T.take (i + 1)) = t := by rw [HST.out, show bestS last bb t = t from if_pos ⟨q1, .inl q2⟩]
              have HSB := Aside0.mk hst
              clear hst
              go_wp2_with fail
              go_roundg (T.length - (i + 1))
              case measure => have := HGG.out; have := HLT.out; omega
              case rel => exact ⟨i + 1, by rw [HSB.out], rfl, rfl, by have := HLT.out; omega, HB3⟩
            · have d2 : decide (bb < 0) = false := decide_eq_false q2
              by_cases q3 : t < bb
              · have d3 : decide (t < bb) = true := decide_eq_true q3
                skip
                have hst : bestF last (T.take (i + 1)) = t := by rw [HST.out, show bestS last bb t = t from if_pos ⟨q1, .inr q3⟩]
                have HSB := Aside0.mk hst
                clear hst
                go_wp2_with fail
                go_roundg (T.length - (i + 1))
                case measure => have := HGG.out; have := HLT.out; omega
                case rel => exact ⟨i + 1, by rw [HSB.out], rfl, rfl, by have := HLT.out; omega, HB3⟩
              · have d3 : decide (t < bb) = false := decide_eq_false q3
                skip
                have hst : bestF last (T.take (i + 1)) = bb := by rw [HST.out, show bestS last bb t = bb from if_neg (fun h => h.2.elim q2 q3)]
                have HSB := Aside0.mk hst
                clear hst
                go_wp2_with fail
                go_roundg (T.length - (i + 1))
                case measure => have := HGG.out; have := HLT.out; omega
                case rel => exact ⟨i + 1, by rw [HSB.out], rfl, rfl, by have := HLT.out; omega, HB3⟩
          · have d1 : decide (last < t) = false := decide_eq_false q1
            skip
            have hst : bestF last (T.take (i + 1)) = bb := by rw [HST.out, show bestS last bb t = bb from if_neg (fun h => q1 h.1)]
            have HSB := Aside0.mk hst
            clear hst
            go_wp2_with fail
            go_roundg (T.length - (i + 1))
            case measure => have := HGG.out; have := HLT.out; omega
            case rel => exact ⟨i + 1, by rw [HSB.out], rfl, rfl, by have := HLT.out; omega, HB3⟩
        · have hii : ¬ (i : Int) < (T.length : Int) := by omega
          have hbm : bestF last (T.take i) = m := by rw [List.take_of_length_le (by omega)]; exact HN.out
          rw [hbm]
          have hwu : IntKind.u32.wrap m = m := u32_id HPJ.out.1 HPJ.out.2
          have HR3 := Aside0.mk (HR.out.below HB3.out)
          have HB4 := Aside0.mk (below_step HB.out HB3.out)
          obtain ⟨v1, w11, r1, o1, b1, g1⟩ := HR3.out.app1 HB4.out.size ⟨m, M.s⟩ (by rw [HPL.out]; have := HLL.out; have := HJP.out; omega)
          have R1 := Aside0.mk r1
          have O1 := Aside0.mk o1
          have B1 := Aside0.mk (HB4.out.trans b1)
          clear r1 o1 b1 g1 hbm hi2 hlt
          go_wp2_with ((with_reducible refine gate_builtin (b := .append) (xs := #[.tmp 45, .tmp 53]) rfl ?_); at_builtin; refine wpList_append_run rfl (.tmp 45) (.tmp 53) 28 rfl rfl rfl R1.out ?_)
          go_roundg (P.length - (j + 1))
          case measure => have := HG.out; have := HJP.out; omega
          case rel => exact ⟨j + 1, by rw [HLS.out], rfl, by have := HJP.out; omega, ⟨by rw [HTK.out]; exact O1.out⟩, B1⟩
    · have hii : ¬ (j : Int) < (T.length : Int) := by omega
      have hjl : P.take j = P := List.take_of_length_le (by have := HLL.out.1; omega)
      have HRF : Aside0 (Row wr w.heap.size (.slice s3 j c3) (pxl M.s P)) := ⟨by have := HR.out; rw [hjl] at this; exact this⟩
      clear hjl hlt
      go_wp2_with fail
      go_ret
      exact ⟨_, rfl, HRF.out, HB.out⟩
end Go.Proofs.Ytebnlhjakiipjaa.Pl
