/- The statements' own helpers in plain words: has, without, below, sound; two pools beside one another. Conditions: lists within the reach, addresses of their kind. -/
import Derived.Test.YtebnlhjakiipjaaPaF
import Derived.Test.YtebnlhjakiipjaaPPlfx3
set_option linter.unusedVariables false
set_option linter.unusedSimpArgs false
namespace Go.Proofs.Ytebnlhjakiipjaa.Pl
open Go.RowKit Go.Maps Go.Proofs.YtebnlhjakiipjaaW.PrintWords Go.Proofs.YtebnlhjakiipjaaW.PrintMore Go.Proofs.Ytebnlhjakiipjaa.PPlf
theorem has_l {l : List S27} (a b : Int) (hl : l.length ≤ 281474976710656) : ∀ (n i k : Nat), i + n = l.length → n < k → weftlaw10_has.l0 k l (i : Int) a b = some (decide ((⟨a, b⟩ : S27) ∈ l.drop i))
  | 0, i, k, hn, hk => by
    obtain ⟨k, rfl⟩ : ∃ m, k = m + 1 := ⟨k - 1, by omega⟩
    simp only [weftlaw10_has.l0]
    rw [if_neg (by omega), List.drop_eq_nil_of_le (by omega)]
    simp
  | n + 1, i, k, hn, hk => by
    obtain ⟨k, rfl⟩ : ∃ m, k = m + 1 := ⟨k - 1, by omega⟩
    have ih := has_l a b hl n (i + 1) k (by omega) (by omega)
    simp only [weftlaw10_has.l0]
    rw [if_pos (by omega), if_pos (by omega), drop_at (show i < l.length by omega), w64 (by omega) (by omega), show (i : Int) + 1 = ((i + 1 : Nat) : Int) from by omega, ih]
    by_cases c : rd_T27 l i = ⟨a, b⟩
    · rw [if_pos (by rw [c]; simp)]
      simp [c]
    · rw [if_neg (by
        intro h
        rw [Bool.and_eq_true, beq_iff_eq, beq_iff_eq] at h
        exact c (S27.ext_iff'.2 h))]
      congr 1
      rw [decide_eq_decide, List.mem_cons]
      exact ⟨.inr, fun h => h.elim (fun e => absurd e.symm c) id⟩
theorem has_all {l : List S27} (a b : Int) (hl : l.length ≤ 281474976710656) {k : Nat} (hk : l.length < k) : weftlaw10_has.f k l a b = some (decide ((⟨a, b⟩ : S27) ∈ l)) := by
  have := has_l a b hl l.length 0 k (by omega) hk
  exact this
theorem without_l {l : List S27} (a b : Int) (hl : l.length < 8796093022208) : ∀ (n i k : Nat) (acc : List S27), i + n = l.length → acc.length ≤ i → n < k → weftlaw10_without.l0 k l acc (i : Int) a b = some (acc ++ (l.drop i).filter (fun x => decide (x ≠ ⟨a, b⟩)))
  | 0, i, k, acc, hn, ha, hk => by
    obtain ⟨k, rfl⟩ : ∃ m, k = m + 1 := ⟨k - 1, by omega⟩
    simp only [weftlaw10_without.l0]
    rw [if_neg (by omega), List.drop_eq_nil_of_le (by omega)]
    simp
  | n + 1, i, k, acc, hn, ha, hk => by
    obtain ⟨k, rfl⟩ : ∃ m, k = m + 1 := ⟨k - 1, by omega⟩
    simp only [weftlaw10_without.l0]
    rw [if_pos (by omega), if_pos (by omega), drop_at (show i < l.length by omega), w64 (by omega) (by omega), show (i : Int) + 1 = ((i + 1 : Nat) : Int) from by omega]
    by_cases c : rd_T27 l i = ⟨a, b⟩
    · rw [if_neg (by rw [c]; simp), without_l a b hl n (i + 1) k acc (by omega) (by omega) (by omega), List.filter_cons, if_neg (by simp [c])]
    · rw [if_pos (by
        rw [Bool.or_eq_true, Bool.not_eq_true', Bool.not_eq_true', beq_eq_false_iff_ne, beq_eq_false_iff_ne]
        by_cases c0 : (rd_T27 l i).f0 = a
        · exact .inr (fun h => c (S27.ext_iff'.2 ⟨c0, h⟩))
        · exact .inl c0), if_pos (by omega), without_l a b hl n (i + 1) k _ (by omega) (by rw [List.length_append, List.length_singleton]; omega) (by omega), List.filter_cons, if_pos (by simpa using c), List.append_assoc]
      rfl
theorem without_all {l : List S27} (a b : Int) (hl : l.length < 8796093022208) {k : Nat} (hk : l.length < k) : weftlaw10_without.f k l a b = some (l.filter (fun x => decide (x ≠ ⟨a, b⟩))) := by
  have := without_l a b hl l.length 0 k [] (by omega) (Nat.le_refl _) hk
  exact this
/-- how many of a list lie in the row below n -/
def cntB (l : List S27) (mn n : Int) : Nat := (l.filter (fun x => decide (mn ≤ x.f0) && decide (x.f0 < n))).length
theorem cntB_cons (x : S27) (l : List S27) (mn n : Int) : cntB (x :: l) mn n = (if mn ≤ x.f0 ∧ x.f0 < n then 1 else 0) + cntB l mn n := by
  unfold cntB
  by_cases h : mn ≤ x.f0 ∧ x.f0 < n
  · rw [List.filter_cons, if_pos (by rw [decide_eq_true h.1, decide_eq_true h.2]; rfl), if_pos h, List.length_cons]; omega
  · rw [List.filter_cons, if_neg (by intro hc; rw [Bool.and_eq_true, decide_eq_true_eq, decide_eq_true_eq] at hc; exact h hc), if_neg h]; omega
theorem cntB_le (l : List S27) (mn n : Int) : cntB l mn n ≤ l.length := List.length_filter_le _ _
theorem below_l1 {a b : List S27} (mn n : Int) (ha : a.length ≤ 140737488355328) (hb : b.length ≤ 140737488355328) (hW : ∀ x, x ∈ b → 0 ≤ x.f0 ∧ x.f0 < 4294967296) : ∀ (m i k c : Nat), i + m = b.length → c ≤ a.length + i → m + a.length + 1 < k → weftlaw10_below.l1 k a b mn n (c : Int) (i : Int) = some (((c + cntB ((b.drop i).filter (fun x => !decide (x ∈ a))) mn n : Nat) : Int))
  | 0, i, k, c, hm, hc, hk => by
    obtain ⟨k, rfl⟩ : ∃ m, k = m + 1 := ⟨k - 1, by omega⟩
    simp only [weftlaw10_below.l1]
    rw [if_neg (by omega), List.drop_eq_nil_of_le (by omega)]
    simp [cntB]
  | m + 1, i, k, c, hm, hc, hk => by
    obtain ⟨k, rfl⟩ : ∃ m, k = m + 1 := ⟨k - 1, by omega⟩
    have hx := hW (rd_T27 b i) (by rw [rd_at (show i < b.length by omega)]; exact List.getElem_mem _)
    have ih := fun c hc => below_l1 mn n ha hb hW m (i + 1) k c (by omega) hc (by omega)
    simp only [weftlaw10_below.l1]
    rw [if_pos (by omega), if_pos (by omega), drop_at (show i < b.length by omega), w64 (x := (i : Int) + 1) (by omega) (by omega), show (i : Int) + 1 = ((i + 1 : Nat) : Int) from by omega, w64 hx.1 (by omega)]
    generalize rd_T27 b i = x at *
    by_cases h1 : mn ≤ x.f0
    · rw [if_pos (show x.f0 ≥ mn from h1)]
      by_cases h2 : x.f0 < n
      · rw [if_pos h2, has_all _ _ (by omega) (by omega), Option.bind_some]
        by_cases h3 : x ∈ a
        · rw [if_pos (decide_eq_true h3), ih c (by omega), List.filter_cons, if_neg (by simp [h3])]
        · rw [if_neg (by rw [decide_eq_false h3]; decide), w64 (by omega) (by omega), show (c : Int) + 1 = ((c + 1 : Nat) : Int) from by omega, ih (c + 1) (by omega), List.filter_cons, if_pos (by simp [h3]), cntB_cons, if_pos ⟨h1, h2⟩]
          congr 2; omega
      · rw [if_neg h2, ih c (by omega), List.filter_cons]
        split
        · rw [cntB_cons, if_neg (fun h => h2 h.2)]; congr 2; omega
        · rfl
    · rw [if_neg h1, ih c (by omega), List.filter_cons]
      split
      · rw [cntB_cons, if_neg (fun h => h1 h.1)]; congr 2; omega
      · rfl
theorem below_l0 {a b : List S27} (mn n : Int) (ha : a.length ≤ 140737488355328) (hb : b.length ≤ 140737488355328) (hV : ∀ x, x ∈ a → 0 ≤ x.f0 ∧ x.f0 < 4294967296) (hW : ∀ x, x ∈ b → 0 ≤ x.f0 ∧ x.f0 < 4294967296) : ∀ (m i k c : Nat), i + m = a.length → c ≤ i → m + a.length + b.length + 2 < k → weftlaw10_below.l0 k a b mn n (c : Int) (i : Int) = some (((c + cntB (a.drop i) mn n + cntB (b.filter (fun x => !decide (x ∈ a))) mn n : Nat) : Int))
  | 0, i, k, c, hm, hc, hk => by
    obtain ⟨k, rfl⟩ : ∃ m, k = m + 1 := ⟨k - 1, by omega⟩
    have := below_l1 mn n ha hb hW b.length 0 k c (by omega) (by omega) (by omega)
    simp only [weftlaw10_below.l0]
    rw [if_neg (by omega), List.drop_eq_nil_of_le (by omega)]
    simpa [cntB] using this
  | m + 1, i, k, c, hm, hc, hk => by
    obtain ⟨k, rfl⟩ : ∃ m, k = m + 1 := ⟨k - 1, by omega⟩
    have hx := hV (rd_T27 a i) (by rw [rd_at (show i < a.length by omega)]; exact List.getElem_mem _)
    have ih := fun c hc => below_l0 mn n ha hb hV hW m (i + 1) k c (by omega) hc (by omega)
    simp only [weftlaw10_below.l0]
    rw [if_pos (by omega), if_pos (by omega), drop_at (show i < a.length by omega), w64 (x := (i : Int) + 1) (by omega) (by omega), show (i : Int) + 1 = ((i + 1 : Nat) : Int) from by omega, w64 hx.1 (by omega), w64 (x := (c : Int) + 1) (by omega) (by omega), show (c : Int) + 1 = ((c + 1 : Nat) : Int) from by omega, cntB_cons]
    generalize rd_T27 a i = x at *
    by_cases h1 : mn ≤ x.f0
    · rw [if_pos (show x.f0 ≥ mn from h1)]
      by_cases h2 : x.f0 < n
      · rw [if_pos h2, ih (c + 1) (by omega), if_pos ⟨h1, h2⟩]; congr 2; omega
      · rw [if_neg h2, ih c (by omega), if_neg (fun h => h2 h.2)]; congr 2; omega
    · rw [if_neg h1, ih c (by omega), if_neg (fun h => h1 h.1)]; congr 2; omega
def belowF (a b : List S27) (mn n : Int) : Int := ((cntB a mn n + cntB (b.filter (fun x => !decide (x ∈ a))) mn n : Nat) : Int)
theorem below_all {a b : List S27} (mn n : Int) (ha : a.length ≤ 140737488355328) (hb : b.length ≤ 140737488355328) (hV : ∀ x, x ∈ a → 0 ≤ x.f0 ∧ x.f0 < 4294967296) (hW : ∀ x, x ∈ b → 0 ≤ x.f0 ∧ x.f0 < 4294967296) {k : Nat} (hk : a.length + a.length + b.length + 2 < k) : weftlaw10_below.f k a b mn n = some (belowF a b mn n) := by
  have := below_l0 mn n ha hb hV hW a.length 0 k 0 (by omega) (Nat.le_refl _) (by omega)
  rw [List.drop_zero, Nat.zero_add] at this
  exact this
/-! sound -/
theorem shl_sizeF {l : Int} (h0 : 0 ≤ l) (h1 : l ≤ 32) : shl .i64 1 (wrap64 (32 - l)) = sizeF l := by
  have hs := sizeF_rng h0 h1
  rw [w64 (by omega) (by omega)]
  unfold shl
  rw [Nat.min_eq_left (by show (32 - l).toNat ≤ 64; omega), Int.one_mul]
  show IntKind.i64.wrap (sizeF l) = sizeF l
  exact wrap64_id (by omega) (by omega)
theorem sound_l {na nl s : Int} {kept : List S27} (hb0 : 0 ≤ na) (hb1 : na < 4294967296) (hv : vld na nl) (s0 : 0 ≤ s) (s1 : s ≤ 32) (lo hi : Int) (hl : kept.length ≤ 1024) (hW : ∀ x, x ∈ kept → 0 ≤ x.f0 ∧ x.f0 < 4294967296) :
    ∀ (m i k : Nat), i + m = kept.length → 2 * m + 1030 < k → (∀ x, x ∈ kept.take i → x.f1 = s) → weftlaw10_sound.l0 k (sizeF nl) (sizeF s) na (i : Int) na nl s lo hi kept = some (decide (keptE na nl s ((kept.take i).map (·.f0)) (kept.drop i) = 0))
  | 0, i, k, hm, hk, hf => by
    obtain ⟨k, rfl⟩ : ∃ m, k = m + 1 := ⟨k - 1, by omega⟩
    simp only [weftlaw10_sound.l0]
    rw [if_neg (by omega), List.drop_eq_nil_of_le (show kept.length ≤ i by omega)]
    simp [keptE]
  | m + 1, i, k, hm, hk, hf => by
    obtain ⟨k, rfl⟩ : ∃ m, k = m + 2 := ⟨k - 2, by omega⟩
    have hi2 : i < kept.length := by omega
    have hx := hW (rd_T27 kept i) (by rw [rd_at hi2]; exact List.getElem_mem _)
    have htk : kept.take (i + 1) = kept.take i ++ [rd_T27 kept i] := by rw [rd_at hi2, List.take_succ_eq_append_getElem hi2]
    have ih := sound_l hb0 hb1 hv s0 s1 lo hi hl hW m (i + 1) k (by omega) (by omega)
    rw [htk, List.map_append, List.map_singleton] at ih
    have hnl := sizeF_rng hv.1 hv.2.1
    have hs := sizeF_rng s0 s1
    have hfit := sizeF_fit hb0 hb1 hv
    rw [drop_at hi2, keptE_cons]
    simp only [weftlaw10_sound.l0]
    generalize rd_T27 kept i = x at *
    -- the two arms behind the bounds
    have arm : ∀ c : Bool, weftlaw10_sound.j3 (k + 1) (sizeF nl) (sizeF s) na (i : Int) c na nl s lo hi kept x.f0 x.f1 = if c = true then some false else if x ∈ kept.take i then some false else weftlaw10_sound.l0 k (sizeF nl) (sizeF s) na ((i + 1 : Nat) : Int) na nl s lo hi kept := fun c => by
      simp only [weftlaw10_sound.j3]
      cases c with
      | true => rfl
      | false =>
        rw [if_neg (show ¬ ((false : Bool) = true) by decide)]
        try rw [if_neg (show ¬ ((false : Bool) = true) by decide)]
        rw [if_pos (show (0 : Int) ≤ (i : Int) by omega), if_pos (show (i : Int) ≤ (kept.length : Int) by omega), Int.toNat_natCast, has_all _ _ (by rw [List.length_take]; omega) (by rw [List.length_take]; omega), Option.bind_some, w64 (by omega) (by omega), show (i : Int) + 1 = ((i + 1 : Nat) : Int) from by omega]
        by_cases h3 : x ∈ kept.take i
        · rw [if_pos (decide_eq_true h3), if_pos h3]
        · rw [if_neg (by rw [decide_eq_false h3]; decide), if_neg h3]
    rw [if_pos (show (i : Int) < (kept.length : Int) by omega), if_pos (show (0 : Int) ≤ (i : Int) by omega), arm, arm, w64 hx.1 (by omega), w64 (x := na + sizeF nl) (by omega) (by omega), if_neg (show ¬ sizeF s = 0 by omega), Int.tmod_eq_emod_of_nonneg hx.1]
    by_cases c1 : x.f1 = s
    · rw [if_pos c1]
      by_cases c2 : x.f0 % sizeF s = 0
      · have hsub : sub ⟨na, nl, s, 0, 0, [], fun _ => none⟩ x.f0 x.f1 := ⟨c1, by rw [c1]; exact ⟨s0, s1, c2⟩⟩
        rw [if_pos c2, if_neg (show ¬ ¬ sub ⟨na, nl, s, 0, 0, [], fun _ => none⟩ x.f0 x.f1 from fun h => h hsub)]
        have hsn : x ∈ kept.take i ↔ x.f0 ∈ (kept.take i).map (·.f0) := by
          constructor
          · intro h; exact List.mem_map.2 ⟨x, h, rfl⟩
          · intro h
            obtain ⟨y, hy, e⟩ := List.mem_map.1 h
            have : y = x := S27.ext_iff'.2 ⟨e, by rw [hf y hy, c1]⟩
            rw [← this]; exact hy
        have key : ins na nl x.f0 → (if x ∈ kept.take i then some false else weftlaw10_sound.l0 k (sizeF nl) (sizeF s) na ((i + 1 : Nat) : Int) na nl s lo hi kept) = some (decide ((if ¬ ins na nl x.f0 then (101 : Int) else if x.f0 ∈ (kept.take i).map (·.f0) then 5 else keptE na nl s ((kept.take i).map (·.f0) ++ [x.f0]) (kept.drop (i + 1))) = 0)) := fun hin => by
          rw [if_neg (show ¬ ¬ ins na nl x.f0 from fun h => h hin)]
          by_cases c3 : x ∈ kept.take i
          · rw [if_pos c3, if_pos (hsn.1 c3)]; rfl
          · rw [if_neg c3, if_neg (fun h => c3 (hsn.2 h))]
            exact ih (fun y hy => by
              rcases List.mem_append.1 hy with hy | hy
              · exact hf y hy
              · rw [List.mem_singleton] at hy; rw [hy]; exact c1)
        by_cases c3 : x.f0 < na
        · rw [if_pos c3, if_pos rfl, if_pos (fun h : ins na nl x.f0 => by have := h.2.1; omega)]; rfl
        · rw [if_neg c3]
          by_cases c4 : x.f0 ≥ na + sizeF nl
          · rw [if_pos (decide_eq_true c4), if_pos (fun h : ins na nl x.f0 => by have := h.2.2; omega)]; rfl
          · rw [if_neg (by rw [decide_eq_false c4]; decide)]
            exact key ⟨hv, by omega, by omega⟩
      · have hsub : ¬ sub ⟨na, nl, s, 0, 0, [], fun _ => none⟩ x.f0 x.f1 := fun h => c2 (by have := h.2.2.2; rw [c1] at this; exact this)
        rw [if_neg c2, if_pos rfl, if_pos hsub]; rfl
    · rw [if_neg c1, if_pos rfl, if_pos (fun h : sub _ x.f0 x.f1 => c1 h.1)]; rfl
theorem sound_all {na nl s lo hi : Int} {kept : List S27} (hb0 : 0 ≤ na) (hb1 : na < 4294967296) (hl0 : 0 ≤ lo) (hl1 : lo < 4294967296) (hh0 : 0 ≤ hi) (hh1 : hi < 4294967296) (hW : ∀ x, x ∈ kept → 0 ≤ x.f0 ∧ x.f0 < 4294967296) :
    weftlaw10_sound.f 4000 na nl s lo hi kept = some (decide (newE na nl s lo hi kept = 0)) := by
  have bad : ∀ b : Prop, b → ¬ (newE na nl s lo hi kept = 0) → weftlaw10_sound.j0 4000 true na nl s lo hi kept = some (decide (newE na nl s lo hi kept = 0)) := fun b _ h => by
    rw [decide_eq_false h]; rfl
  unfold weftlaw10_sound.f
  have hno : ∀ P : Prop, (GoodP na nl s lo hi → kept.length ≤ 1024 → P → False) → P → ¬ (newE na nl s lo hi kept = 0) := fun P h p e => by
    obtain ⟨h1, h2, _⟩ := newE_ok.1 e
    exact h h2 h1 p
  by_cases c1 : nl < 0
  · rw [if_pos c1]; exact bad _ c1 (hno _ (fun g _ h => by have := g.nl0; omega) c1)
  rw [if_neg c1]
  by_cases c2 : nl > 32
  · rw [if_pos c2]; exact bad _ c2 (hno _ (fun g _ h => by have := g.nls; have := g.s32; omega) c2)
  rw [if_neg c2]
  by_cases c3 : s < nl
  · rw [if_pos c3]; exact bad _ c3 (hno _ (fun g _ h => by have := g.nls; omega) c3)
  rw [if_neg c3]
  by_cases c4 : s > 32
  · rw [if_pos c4]; exact bad _ c4 (hno _ (fun g _ h => by have := g.s32; omega) c4)
  rw [if_neg c4]
  by_cases c5 : lo > hi
  · rw [if_pos c5]; exact bad _ c5 (hno _ (fun g _ h => by have := g.lohi; omega) c5)
  rw [if_neg c5]
  by_cases c6 : (kept.length : Int) > 1024
  · rw [decide_eq_true c6]; exact bad _ c6 (hno _ (fun g h1 h => by omega) c6)
  rw [decide_eq_false c6]
  have hnl := sizeF_rng (l := nl) (by omega) (by omega)
  have hs := sizeF_rng (l := s) (by omega) (by omega)
  have arm : ∀ c : Bool, weftlaw10_sound.j1 3999 (sizeF nl) (sizeF s) na c na nl s lo hi kept = if c = true then some false else weftlaw10_sound.l0 3998 (sizeF nl) (sizeF s) na 0 na nl s lo hi kept := fun c => rfl
  rw [show (4000 : Nat) = 3999 + 1 from rfl]
  simp only [weftlaw10_sound.j0]
  try rw [if_neg (show ¬ ((false : Bool) = true) by decide)]
  rw [shl_sizeF (by omega) (by omega), shl_sizeF (by omega) (by omega), if_pos (show 0 ≤ wrap64 (32 - nl) by rw [w64 (by omega) (by omega)]; omega), if_pos (show 0 ≤ wrap64 (32 - s) by rw [w64 (by omega) (by omega)]; omega), if_neg (show ¬ sizeF nl = 0 by omega), if_neg (show ¬ sizeF s = 0 by omega), w64 hb0 (by omega), w64 hl0 (by omega), w64 hh0 (by omega), w64 (x := na + sizeF nl) (by omega) (by omega),
    Int.tmod_eq_emod_of_nonneg hb0, Int.tmod_eq_emod_of_nonneg hl0, Int.tmod_eq_emod_of_nonneg hh0, arm, arm]
  by_cases d1 : na % sizeF nl = 0
  · rw [if_pos d1]
    by_cases d2 : lo % sizeF s = 0
    · rw [if_pos d2]
      by_cases d3 : hi % sizeF s = 0
      · rw [if_pos d3]
        by_cases d4 : lo < na
        · rw [if_pos d4, if_pos rfl, decide_eq_false (hno _ (fun g _ h => by have := g.lo0; omega) d4)]
        · rw [if_neg d4]
          by_cases d5 : hi ≥ na + sizeF nl
          · rw [if_pos (decide_eq_true d5), decide_eq_false (hno _ (fun g _ h => by have := g.hi1; omega) d5)]
          · rw [if_neg (by rw [decide_eq_false d5]; decide)]
            have g : GoodP na nl s lo hi := ⟨by omega, by omega, by omega, by omega, d1, d2, d3, by omega, by omega⟩
            have e : newE na nl s lo hi kept = keptE na nl s [] kept := by
              unfold newE
              rw [if_neg (by omega), if_neg (fun h => h (faultF_ok.2 g))]
            rw [e]
            exact sound_l hb0 hb1 ⟨by omega, by omega, d1⟩ (by omega) (by omega) lo hi (by omega) hW kept.length 0 3998 (by omega) (by omega) (fun x hx => by simp at hx)
      · rw [if_neg d3, if_pos rfl, decide_eq_false (hno _ (fun g _ h => h g.dhi) d3)]
    · rw [if_neg d2, if_pos rfl, decide_eq_false (hno _ (fun g _ h => h g.dlo) d2)]
  · rw [if_neg d1, if_pos rfl, decide_eq_false (hno _ (fun g _ h => h g.dn) d1)]
/-- two pools of one making, apart from one another and from what was there before -/
structure Two (w0 : World) (p q : Nat) (M : Pm) (L1 L2 : List Int) (F1 F2 : List Nat) (w : World) : Prop where
  p1 : Po w p M L1 F1
  p2 : Po w q M L2 F2
  l1 : Lok M L1
  l2 : Lok M L2
  ap : ∀ k, k ∈ F1 → k ∉ F2
  n1 : ∀ k, k ∈ F1 → w0.heap.size ≤ k
  n2 : ∀ k, k ∈ F2 → w0.heap.size ≤ k
  bel : Below w0.heap.size w0 w
section
variable {w0 w w' : World} {p q : Nat} {M : Pm} {L1 L2 : List Int} {F1 F2 : List Nat} {P : List Int → Prop}
theorem Two.below (h : Two w0 p q M L1 L2 F1 F2 w) (hb : Below w.heap.size w w') : Two w0 p q M L1 L2 F1 F2 w' := ⟨h.p1.below hb, h.p2.below hb, h.l1, h.l2, h.ap, h.n1, h.n2, below_step h.bel hb⟩
theorem Two.left1 (h : Two w0 p q M L1 L2 F1 F2 w) (hl : Left w p M F1 P w') : ∃ L' F', Two w0 p q M L' L2 F' F2 w' ∧ P L' ∧ Turn w w' F1 := by
  obtain ⟨L', F', h1, h2, h3, h4, h5⟩ := hl
  refine ⟨L', F', ⟨h1, h.p2.turn h4 (fun k hk hf => h.ap k hf hk), h2, h.l2, fun k hk hf => ?_, fun k hk => ?_, h.n2, h.bel.trans (h4.below h.bel.size h.n1)⟩, h3, h4⟩
  · rcases h5 k hk with h6 | h6
    · exact h.ap k h6 hf
    · have := h.p2.lt k hf; omega
  · rcases h5 k hk with h6 | h6
    · exact h.n1 k h6
    · have := h.bel.size; omega
theorem Two.swap (h : Two w0 p q M L1 L2 F1 F2 w) : Two w0 q p M L2 L1 F2 F1 w := ⟨h.p2, h.p1, h.l2, h.l1, fun k hk hf => h.ap k hf hk, h.n2, h.n1, h.bel⟩
theorem Two.left2 (h : Two w0 p q M L1 L2 F1 F2 w) (hl : Left w q M F2 P w') : ∃ L' F', Two w0 p q M L1 L' F1 F' w' ∧ P L' ∧ Turn w w' F2 := by
  obtain ⟨L', F', h1, h2, h3⟩ := h.swap.left1 hl
  exact ⟨L', F', h1.swap, h2, h3⟩
theorem Two.claim1 (hM : MOk M) (h : Two w0 p q M L1 L2 F1 F2 w) (a l : Int) (ha0 : 0 ≤ a) (ha1 : a < 4294967296) :
    Calls Try.prog 15 #[.pointer (some ⟨p, 0, none⟩), .agg #[.int .u32 a, .int .i64 l]] w fun e w' => ∃ v L' F', e = .returned v ∧ Two w0 p q M L' L2 F' F2 w' ∧ ∀ x, x ∈ L' ↔ x ∈ L1 ∨ (okC M a l ∧ x = a / sizeF M.s) := by
  refine (claimP hM h.l1 h.p1 a l ha0 ha1).mono ?_
  rintro e w' ⟨rfl, hl⟩
  obtain ⟨L', F', h1, h2, _⟩ := h.left1 hl
  refine ⟨_, L', F', rfl, h1, fun x => ?_⟩
  rw [h2 x, claimE_zero]
  constructor
  · rintro (h | ⟨⟨h, _⟩, e⟩)
    · exact .inl h
    · exact .inr ⟨h, e⟩
  · rintro (h | ⟨h, e⟩)
    · exact .inl h
    · by_cases c : a / sizeF M.s ∈ L1
      · exact .inl (e ▸ c)
      · exact .inr ⟨⟨h, c⟩, e⟩
theorem Two.claim2 (hM : MOk M) (h : Two w0 p q M L1 L2 F1 F2 w) (a l : Int) (ha0 : 0 ≤ a) (ha1 : a < 4294967296) :
    Calls Try.prog 15 #[.pointer (some ⟨q, 0, none⟩), .agg #[.int .u32 a, .int .i64 l]] w fun e w' => ∃ v L' F', e = .returned v ∧ Two w0 p q M L1 L' F1 F' w' ∧ ∀ x, x ∈ L' ↔ x ∈ L2 ∨ (okC M a l ∧ x = a / sizeF M.s) := by
  refine (h.swap.claim1 hM a l ha0 ha1).mono ?_
  rintro e w' ⟨v, L', F', rfl, h1, h2⟩
  exact ⟨v, L', F', rfl, h1.swap, h2⟩
theorem Two.free2 (hM : MOk M) (h : Two w0 p q M L1 L2 F1 F2 w) (a l : Int) (ha0 : 0 ≤ a) (ha1 : a < 4294967296) :
    Calls Try.prog 18 #[.pointer (some ⟨q, 0, none⟩), .agg #[.int .u32 a, .int .i64 l]] w fun e w' => ∃ v L' F', e = .returned v ∧ Two w0 p q M L1 L' F1 F' w' ∧ ∀ x, x ∈ L' ↔ x ∈ L2 ∧ ¬ (sub M a l ∧ x = a / sizeF M.s) := by
  refine (freeP hM h.l2 h.p2 a l ha0 ha1).mono ?_
  rintro e w' ⟨rfl, hl⟩
  obtain ⟨L', F', h1, h2, _⟩ := h.left2 hl
  refine ⟨_, L', F', rfl, h1, fun x => ?_⟩
  rw [h2 x, freeE_zero]
  exact and_congr_right fun hx => ⟨fun h c => h ⟨⟨c.1, c.2 ▸ hx⟩, c.2⟩, fun h c => h ⟨c.1.1, c.2⟩⟩
end
/-- claimed by one of these -/
def clm (M : Pm) (l : List S27) (x : Int) : Prop := ∃ c, c ∈ l ∧ okC M c.f0 c.f1 ∧ x = c.f0 / sizeF M.s
theorem clm_snoc {M : Pm} {l : List S27} {c : S27} {x : Int} : clm M (l ++ [c]) x ↔ clm M l x ∨ (okC M c.f0 c.f1 ∧ x = c.f0 / sizeF M.s) := by
  constructor
  · rintro ⟨d, hd, h⟩
    rcases List.mem_append.1 hd with hd | hd
    · exact .inl ⟨d, hd, h⟩
    · rw [List.mem_singleton] at hd; subst hd; exact .inr h
  · rintro (⟨d, hd, h⟩ | h)
    · exact ⟨d, List.mem_append.2 (.inl hd), h⟩
    · exact ⟨c, by simp, h⟩
theorem clm_cons {M : Pm} {l : List S27} {c : S27} {x : Int} : clm M (c :: l) x ↔ clm M l x ∨ (okC M c.f0 c.f1 ∧ x = c.f0 / sizeF M.s) := by
  constructor
  · rintro ⟨d, hd, h⟩
    rcases List.mem_cons.1 hd with rfl | hd
    · exact .inr h
    · exact .inl ⟨d, hd, h⟩
  · rintro (⟨d, hd, h⟩ | h)
    · exact ⟨d, List.mem_cons_of_mem _ hd, h⟩
    · exact ⟨c, List.mem_cons_self, h⟩
/-- given back, of those that are none of the claims -/
def gone (M : Pm) (cl l : List S27) (x : Int) : Prop := ∃ o, o ∈ l ∧ o ∉ cl ∧ sub M o.f0 o.f1 ∧ x = o.f0 / sizeF M.s
theorem gone_snoc {M : Pm} {cl l : List S27} {c : S27} {x : Int} : gone M cl (l ++ [c]) x ↔ gone M cl l x ∨ (c ∉ cl ∧ sub M c.f0 c.f1 ∧ x = c.f0 / sizeF M.s) := by
  constructor
  · rintro ⟨d, hd, h⟩
    rcases List.mem_append.1 hd with hd | hd
    · exact .inl ⟨d, hd, h⟩
    · rw [List.mem_singleton] at hd; subst hd; exact .inr h
  · rintro (⟨d, hd, h⟩ | h)
    · exact ⟨d, List.mem_append.2 (.inl hd), h⟩
    · exact ⟨c, by simp, h⟩
/-- what is left is what was claimed -/
theorem sets_same {M : Pm} {cl ot : List S27} {x : Int} : (clm M ot x ∨ clm M cl x) ∧ ¬ gone M cl ot x ↔ clm M cl x := by
  constructor
  · rintro ⟨⟨o, ho, h1, h2⟩ | h, hg⟩
    · by_cases c : o ∈ cl
      · exact ⟨o, c, h1, h2⟩
      · exact absurd ⟨o, ho, c, h1.1, h2⟩ hg
    · exact h
  · rintro ⟨c, hc, h1, h2⟩
    refine ⟨.inr ⟨c, hc, h1, h2⟩, fun ⟨o, ho, hn, h3, h4⟩ => hn ?_⟩
    have e1 : c.f1 = M.s := h1.1.1
    have e2 : o.f1 = M.s := h3.1
    have d1 : c.f0 % sizeF M.s = 0 := by have := h1.1.2.2.2; rw [e1] at this; exact this
    have d2 : o.f0 % sizeF M.s = 0 := by have := h3.2.2.2; rw [e2] at this; exact this
    have : o = c := S27.ext_iff'.2 ⟨by rw [← div_mul d1, ← div_mul d2, ← h2, ← h4], by rw [e1, e2]⟩
    rw [this]; exact hc
end Go.Proofs.Ytebnlhjakiipjaa.Pl
