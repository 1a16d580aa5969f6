/- The document's answer walked: Del. No condition beyond the state's own. -/
import Derived.Test.YtgabkifojnkbkaaIpmT
set_option linter.unusedVariables false
set_option linter.unusedSimpArgs false
namespace Go.Proofs.Ytgabkifojnkbkaa.Ip
open Go.RowKit Go.Maps Go.WideMaps Go.MapKept Go.Proofs.YtgabkifojnkbkaaW.PrintWords Go.Proofs.Ytgabkifojnkbkaa.PIpf
set_option maxHeartbeats 8000000 in
set_option maxRecDepth 100000 in
theorem rdel_none (w : World) (B : Nat) (vp : Value) (R : RfM) (s : ByteArray) (HS : RfS w B vp R) (hl : R.pods.length ≤ 1024) (hd : atF R.pods s = -1) :
    Calls Try.prog 37 #[.pointer (some ⟨B, 0, none⟩), .string s] w fun e w' => e = .returned (.tuple #[.int .u32 0, .int .i64 3]) ∧ Below w.heap.size w w' := by
  have hc := Aside0.mk (rat w B vp R s hl HS)
  rw [hd] at hc
  clear HS hd
  go_enter Try.func37, Try.ntmps37
  go_wp2_with (first | (go_at_call 53; refine hc.out.mono ?_; rintro e_ w2 ⟨rfl, rfl⟩) | go_in)
  go_ret2
  exact ⟨rfl, Below.refl _ _⟩
theorem podCells_take (l : List Pod) : ∀ i, (podCells l).take (i * 2) = podCells (l.take i) := by
  induction l with
  | nil => intro i; simp [podCells]
  | cons p r ih =>
    intro i
    cases i with
    | zero => simp [podCells]
    | succ i =>
      have e : podCells (p :: r) = .string p.1 :: .int .u32 p.2 :: podCells r := rfl
      rw [e, show (i + 1) * 2 = i * 2 + 1 + 1 from by omega, List.take_succ_cons, List.take_succ_cons, ih]; rfl
theorem podCells_drop (l : List Pod) : ∀ i, (podCells l).drop (i * 2) = podCells (l.drop i) := by
  induction l with
  | nil => intro i; simp [podCells]
  | cons p r ih =>
    intro i
    cases i with
    | zero => simp
    | succ i =>
      have e : podCells (p :: r) = .string p.1 :: .int .u32 p.2 :: podCells r := rfl
      rw [e, show (i + 1) * 2 = i * 2 + 1 + 1 from by omega, List.drop_succ_cons, List.drop_succ_cons, ih]; rfl
theorem ownsRow_cut2 {w : World} {base e n cap size : Nat} {g : Nat} {l : List Value} (h : w.ownsRow base e size (.slice (some ⟨g, 0, none⟩) n cap) n l) {m : Nat} (hm : m ≤ n) : w.ownsRow base e size (.slice (some ⟨g, 0, none⟩) m cap) m (l.take (m * size)) := by
  obtain ⟨h1, h2⟩ := h
  have hms : m * size ≤ n * size := Nat.mul_le_mul_right _ hm
  refine ⟨by rw [List.length_take]; omega, ?_⟩
  rcases h2 with ⟨hv, h0⟩ | ⟨g', cap', cur, hv, hb, hh, hc, hl, hs, ht⟩
  · cases hv
  · injection hv with e1 e2 e3
    injection e1 with e1
    injection e1 with e1
    subst e1 e3
    refine .inr ⟨g, cap, cur, rfl, hb, hh, by omega, hl, hs, ?_⟩
    rw [← ht, List.take_take, Nat.min_eq_left hms]
def cutF (l : List Pod) (i : Nat) : List Pod := l.take i ++ l.drop (i + 1)
/-- what the cut of one pod leaves, as the region that draws makes it -/
theorem RfS.cut {w : World} {B g cp : Nat} {R : RfM} (h : RfS w B (.slice (some ⟨g, 0, none⟩) R.pods.length cp) R) (hl : R.pods.length ≤ 1024) {i : Nat} (hi : i < R.pods.length) {ad : Addr} (had : R.pods.length - (i + 1) = 0 ∨ ad = ⟨g, (i + 1) * 2, none⟩) :
    ∃ (A1 : Option Addr) (c1 : Nat) (w5 : World), (Builtin.append_ #[45, 45] 45 #[.slice (some ⟨g, 0, none⟩) i cp, .slice (some ad) (R.pods.length - (i + 1)) (cp - (i + 1))]).run Try.prog w.drew = .ok (.slice A1 (i + (R.pods.length - (i + 1))) c1) w5 ∧
      w5.cell? ⟨B, 2, none⟩ = some (.slice (some ⟨g, 0, none⟩) R.pods.length cp) ∧ w5.frozen? ⟨B, 2, none⟩ = false ∧
      RfS (w5.setCell ⟨B, 2, none⟩ (.slice A1 (i + (R.pods.length - (i + 1))) c1)) B (.slice A1 (i + (R.pods.length - (i + 1))) c1) { R with pods := cutF R.pods i } ∧ Turn w (w5.setCell ⟨B, 2, none⟩ (.slice A1 (i + (R.pods.length - (i + 1))) c1)) (RfF B (.slice (some ⟨g, 0, none⟩) R.pods.length cp)) ∧
      ∀ b, b ∈ RfF B (.slice A1 (i + (R.pods.length - (i + 1))) c1) → b ∈ RfF B (.slice (some ⟨g, 0, none⟩) R.pods.length cp) ∨ w.heap.size ≤ b := by
  obtain ⟨i0, hi0, hzz⟩ := Option.map_eq_some_iff.1 info84
  simp only [Prod.mk.injEq] at hzz
  obtain ⟨hz0, hz1, hz2⟩ := hzz
  have hW := (ownsRow_cut2 h.row (Nat.le_of_lt hi)).drew
  rw [podCells_take] at hW
  have hcells : ∀ j u, (podCells (R.pods.drop (i + 1)))[j]? = some u → w.drew.cell? (ad.add j) = some u := by
    intro j u hu
    have hj := (List.getElem?_eq_some_iff.1 hu).1
    rw [podCells_length, List.length_drop] at hj
    rcases had with h0 | h0
    · omega
    · subst h0
      rw [← podCells_drop, List.getElem?_drop] at hu
      have hc := h.row.cells (g := g) rfl _ _ hu
      rw [add_plain] at hc
      have e : (⟨g, (i + 1) * 2, none⟩ : Addr).add j = ⟨g, (i + 1) * 2 + j, none⟩ := by unfold Addr.add; split <;> simp_all
      rw [e]; exact hc
  obtain ⟨v', w5, hrun, hown, hg, _, hloc⟩ := run_append_own_at (P := Try.prog) w.drew 0 45 45 84 i0 _ 2 24 Try.underlying45 hi0 hz0 hz1 hz2 rfl (by omega) (.slice (some ⟨g, 0, none⟩) i cp) i (podCells (R.pods.take i)) hW
    ad (R.pods.length - (i + 1)) (cp - (i + 1)) (podCells (R.pods.drop (i + 1))) (by rw [podCells_length, List.length_drop]) hcells (by
      intro u hu
      simp only [podCells, List.mem_flatMap] at hu
      obtain ⟨p, _, hp⟩ := hu
      simp at hp; rcases hp with rfl | rfl <;> rfl) (by unfold maxLen; omega) (by omega) (Nat.zero_le _)
  have hG : w.grownBy w5 (some g) := ⟨hg.os, hg.tape, hg.output, hg.size, hg.block⟩
  obtain ⟨A1, c1, rfl⟩ := own_slice hown
  have hneB : ∀ k, (Value.slice A1 (i + (R.pods.length - (i + 1))) c1).ownBlock = some k → k ≠ B := fun k hk e => by
    subst e
    rcases hloc with h1 | h1
    · rw [hk] at h1; exact h.ne h1
    · rw [hk] at h1; injection h1 with h1; have := blk_lt h.blk; simp at h1; omega
  have hb : w5.heap[B]? = some (.cells (RfCells R (.slice (some ⟨g, 0, none⟩) R.pods.length cp)) 93 (0, 0)) := (hG.block B (blk_lt h.blk) h.ne).trans h.blk
  have hlen : (cutF R.pods i).length = i + (R.pods.length - (i + 1)) := by simp [cutF]; omega
  refine ⟨A1, c1, w5, hrun, blk_cell hb 2, blk_frozen hb 2, ⟨blk_put hb 2 _ rfl, ?_⟩, ((Turn.refl w _).grown hG (fun b hb => Or.inl (by injection hb with hb; subst hb; exact List.mem_cons_of_mem _ (List.mem_cons_self ..)))).set (Or.inl (by simp [RfF])) _, fun b hb => ?_⟩
  · show World.ownsRow _ 0 84 2 _ (cutF R.pods i).length (podCells (cutF R.pods i))
    rw [hlen, cutF, podCells_append]
    exact row_step hown (fun k hk => Below.heap_setCell w5 ⟨B, 2, none⟩ _ k (hneB k hk))
  · simp only [RfF, List.mem_cons, Option.mem_toList, Option.mem_def] at hb ⊢
    rcases hb with hb | hb
    · exact .inl (.inl hb)
    · rcases hloc with h1 | h1
      · rw [h1] at hb; exact .inl (.inr hb)
      · rw [h1] at hb; injection hb with hb; right; simp at hb; omega
set_option maxHeartbeats 8000000 in
set_option maxRecDepth 100000 in
theorem rdel_ok (w : World) (B : Nat) (vp : Value) (R : RfM) (s : ByteArray) (HS : RfS w B vp R) (hl : R.pods.length ≤ 1024) (i : Nat) (hi : i < R.pods.length) (hd : atF R.pods s = i) :
    Calls Try.prog 37 #[.pointer (some ⟨B, 0, none⟩), .string s] w fun e w' => e = .returned (.tuple #[.int .u32 (podAt R.pods i).2, .int .i64 0]) ∧ ∃ vp', RfS w' B vp' { R with pods := cutF R.pods i } ∧ Turn w w' (RfF B vp) ∧ ∀ b, b ∈ RfF B vp' → b ∈ RfF B vp ∨ w.heap.size ≤ b := by
  have hc := Aside0.mk (rat w B vp R s hl HS)
  rw [hd] at hc
  obtain ⟨g, cp, rfl, _, _⟩ := HS.row.form (by omega)
  have hcap : R.pods.length ≤ cp := own_cap HS.row
  have k2 : w.cell? ⟨B, 2, none⟩ = some (.slice (some ⟨g, 0, none⟩) R.pods.length cp) := HS.cell 2
  obtain ⟨_, kc⟩ := pod_at HS.row i hi
  generalize (podAt R.pods i).2 = pa at *
  by_cases hce : cp = i + 1
  · obtain ⟨A1, c1, w5, r1, ka, kf, he, ht, hff⟩ := HS.cut hl hi (ad := ⟨g, 0, none⟩) (.inl (by omega))
    subst hce
    have hz : R.pods.length - (i + 1) = 0 := by omega
    simp only [hz, Nat.add_zero, Nat.sub_self] at r1 he ht hff
    clear hz
    have HE := Aside0.mk he
    have HT := Aside0.mk ht
    have HFF := Aside0.mk hff
    have R1 := Aside0.mk r1
    have hwr : IntKind.i64.wrap ((i : Int) + 1) = (i : Int) + 1 := wrap64_id (by omega) (by omega)
    have htn : ((i : Int) + 1).toNat = i + 1 := by omega
    have hile : (i : Int) + 1 ≤ (R.pods.length : Int) := by omega
    have hile0 : (0 : Int) ≤ (i : Int) + 1 := by omega
    have hinn : i + 1 ≤ R.pods.length := hi
    have hic : i ≤ i + 1 := by omega
    have hic2 : (i : Int) ≤ (i : Int) + 1 := by omega
    have hcc : R.pods.length ≤ i + 1 := hcap
    clear he ht hff r1 HS hd
    go_enter Try.func37, Try.ntmps37
    go_wp2_with (first | (go_at_call 53; refine hc.out.mono ?_; rintro e_ w2 ⟨rfl, rfl⟩) | go_in)
    go_region_law (refine step_append_run rfl (.tmp 27) (.tmp 34) 45 rfl (by rfl) (by rfl) R1.out ?_)
    all_goals
      go_wp2
      go_ret2
      exact ⟨rfl, _, HE.out, HT.out, HFF.out⟩
  · obtain ⟨A1, c1, w5, r1, ka, kf, he, ht, hff⟩ := HS.cut hl hi (ad := ⟨g, (i + 1) * 2, none⟩) (.inr rfl)
    have HE := Aside0.mk he
    have HT := Aside0.mk ht
    have HFF := Aside0.mk hff
    have R1 := Aside0.mk r1
    clear he ht hff r1 HS hd
    have hwr : IntKind.i64.wrap ((i : Int) + 1) = (i : Int) + 1 := wrap64_id (by omega) (by omega)
    have htn : ((i : Int) + 1).toNat = i + 1 := by omega
    have hile : (i : Int) + 1 ≤ (R.pods.length : Int) := by omega
    have hile0 : (0 : Int) ≤ (i : Int) + 1 := by omega
    have hinn : i + 1 ≤ R.pods.length := hi
    have hic : i ≤ cp := by omega
    have hcz : ((i : Int) + 1) ≤ (cp : Int) := by omega
    go_enter Try.func37, Try.ntmps37
    go_wp2_with (first | (go_at_call 53; refine hc.out.mono ?_; rintro e_ w2 ⟨rfl, rfl⟩) | go_in)
    go_region_law (refine step_append_run rfl (.tmp 27) (.tmp 34) 45 rfl (by rfl) (by rfl) R1.out ?_)
    all_goals
      go_wp2
      go_ret2
      exact ⟨rfl, _, HE.out, HT.out, HFF.out⟩
end Go.Proofs.Ytgabkifojnkbkaa.Ip
