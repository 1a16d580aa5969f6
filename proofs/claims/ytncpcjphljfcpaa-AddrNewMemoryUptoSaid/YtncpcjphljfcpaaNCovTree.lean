/- Covers by the tree of blocks: what weftref1.covered tells, what the greedy walk of addr.Cover tells, and that both are one list; how long it is, and that it is a chain. Conditions: lo and hi are addresses. -/
import Derived.Test.YtncpcjphljfcpaaNCovMath
namespace Go.Proofs.Ytncpcjphljfcpaa.Pure
open Go.RowKit Go.Proofs.Ytncpcjphljfcpaa.PNmm Go.Proofs.YtncpcjphljfcpaaW.PrintWords Go.Proofs.YtncpcjphljfcpaaW.PrintLast Go.Proofs.YtncpcjphljfcpaaW.PrintMore

/-- two to the d, as an Int -/
def tp (d : Nat) : Int := ((2 ^ d : Nat) : Int)
theorem tp_pos (d : Nat) : 0 < tp d := by unfold tp; exact_mod_cast Nat.two_pow_pos d
theorem tp_succ (d : Nat) : tp (d + 1) = 2 * tp d := by unfold tp; rw [Nat.pow_succ]; push_cast; omega
theorem tp_le {d : Nat} (h : d ≤ 32) : tp d ≤ 4294967296 := by
  unfold tp
  have : 2 ^ d ≤ 2 ^ 32 := Nat.pow_le_pow_right (by omega) h
  omega
theorem tp_sz {d : Nat} : (sz (32 - d) : Int) = tp (32 - (32 - d)) := rfl

/-- the cover of lo .. hi within the block of size 2^d at base -/
def cov (lo hi : Int) : Nat → Int → List S32
  | 0, base => if lo > base ∨ hi < base then [] else [⟨base, 32⟩]
  | d + 1, base =>
    if lo > base + tp (d + 1) - 1 ∨ hi < base then [] else
    if lo ≤ base ∧ base + tp (d + 1) - 1 ≤ hi then [⟨base, 32 - ((d + 1 : Nat) : Int)⟩] else
    cov lo hi d base ++ cov lo hi d (base + tp d)

theorem cov_out {lo hi : Int} (d : Nat) {base : Int} (h : lo > base + tp d - 1 ∨ hi < base) : cov lo hi d base = [] := by
  cases d with
  | zero => unfold cov; rw [if_pos]; simpa [tp] using h
  | succ d => unfold cov; rw [if_pos h]

theorem cov_in {lo hi : Int} (d : Nat) {base : Int} (h1 : lo ≤ base) (h2 : base + tp d - 1 ≤ hi) : cov lo hi d base = [⟨base, 32 - (d : Int)⟩] := by
  have hp := tp_pos d
  cases d with
  | zero => unfold cov; rw [if_neg (by omega)]; rfl
  | succ d => unfold cov; rw [if_neg (by omega), if_pos ⟨h1, h2⟩]

theorem cov_split {lo hi : Int} (d : Nat) {base : Int} (h : ¬ (lo ≤ base ∧ base + tp (d + 1) - 1 ≤ hi)) : cov lo hi (d + 1) base = cov lo hi d base ++ cov lo hi d (base + tp d) := by
  have hp := tp_pos d
  have hs := tp_succ d
  by_cases ho : lo > base + tp (d + 1) - 1 ∨ hi < base
  · rw [cov_out _ ho, cov_out d (base := base) (by omega), cov_out d (base := base + tp d) (by omega)]; rfl
  · rw [cov, if_neg ho, if_neg h]

/-- It is not longer than the addresses that it has. -/
theorem cov_len (lo hi : Int) (d : Nat) : ∀ base : Int, max lo base ≤ min hi (base + tp d - 1) → ((cov lo hi d base).length : Int) ≤ min hi (base + tp d - 1) + 1 - max lo base := by
  induction d with
  | zero =>
    intro base h
    have ht : tp 0 = 1 := rfl
    rw [cov_in 0 (by omega) (by omega)]
    simp only [List.length_singleton]; omega
  | succ d ih =>
    intro base h
    have hp := tp_pos d
    have hs := tp_succ d
    by_cases hi' : lo ≤ base ∧ base + tp (d + 1) - 1 ≤ hi
    · rw [cov_in _ hi'.1 hi'.2]; simp only [List.length_singleton]; omega
    · rw [cov_split d hi', List.length_append]
      by_cases hl : max lo base ≤ min hi (base + tp d - 1)
      · have := ih base hl
        by_cases hr : max lo (base + tp d) ≤ min hi (base + tp d + tp d - 1)
        · have := ih (base + tp d) hr; omega
        · rw [cov_out d (base := base + tp d) (by omega)]; simp only [List.length_nil]; omega
      · rw [cov_out d (base := base) (by omega)]
        have := ih (base + tp d) (by omega); simp only [List.length_nil]; omega

/-- One side open: at most d blocks. -/
theorem cov_one (lo hi : Int) (d : Nat) : ∀ base : Int, lo ≤ base ∨ base + tp d - 1 ≤ hi → (cov lo hi d base).length ≤ max d 1 := by
  induction d with
  | zero =>
    intro base _
    unfold cov; split <;> simp
  | succ d ih =>
    intro base h
    have hp := tp_pos d
    have hs := tp_succ d
    by_cases hi' : lo ≤ base ∧ base + tp (d + 1) - 1 ≤ hi
    · rw [cov_in _ hi'.1 hi'.2]; simp only [List.length_singleton]; omega
    · rw [cov_split d hi', List.length_append]
      rcases h with h | h
      · by_cases hf : base + tp d - 1 ≤ hi
        · rw [cov_in d h hf]
          by_cases hd : d = 0
          · subst hd
            have ht : tp 0 = 1 := rfl
            have ht1 : tp (0 + 1) = 2 := rfl
            rw [cov_out 0 (base := base + tp 0) (by omega)]; simp
          · have := ih (base + tp d) (.inl (by omega)); simp only [List.length_singleton]; omega
        · rw [cov_out d (base := base + tp d) (by omega)]
          have := ih base (.inl h); simp only [List.length_nil]; omega
      · by_cases hf : lo ≤ base + tp d
        · rw [cov_in d hf (by omega)]
          by_cases hd : d = 0
          · subst hd
            have ht : tp 0 = 1 := rfl
            have ht1 : tp (0 + 1) = 2 := rfl
            rw [cov_out 0 (base := base) (by omega)]; simp
          · have := ih base (.inr (by omega)); simp only [List.length_singleton]; omega
        · rw [cov_out d (base := base) (by omega)]
          have := ih (base + tp d) (.inr (by omega)); simp only [List.length_nil]; omega

/-- At most twice the depth. -/
theorem cov_two (lo hi : Int) (d : Nat) : ∀ base : Int, (cov lo hi (d + 1) base).length ≤ max (2 * d) 1 := by
  induction d with
  | zero =>
    intro base
    have ht : tp 0 = 1 := rfl
    have ht1 : tp (0 + 1) = 2 := rfl
    by_cases hi' : lo ≤ base ∧ base + tp (0 + 1) - 1 ≤ hi
    · rw [cov_in _ hi'.1 hi'.2]; simp
    · rw [cov_split 0 hi', List.length_append]
      by_cases hl : lo ≤ base ∧ base ≤ hi
      · rw [cov_in 0 hl.1 (by omega), cov_out 0 (base := base + tp 0) (by omega)]; simp
      · rw [cov_out 0 (base := base) (by omega)]
        have := cov_one lo hi 0 (base + tp 0)
        by_cases h2 : lo ≤ base + tp 0
        · have := this (.inl h2); simp only [List.length_nil]; omega
        · rw [cov_out 0 (base := base + tp 0) (by omega)]; simp
  | succ d ih =>
    intro base
    have hp := tp_pos (d + 1)
    have hs := tp_succ (d + 1)
    by_cases hi' : lo ≤ base ∧ base + tp (d + 1 + 1) - 1 ≤ hi
    · rw [cov_in _ hi'.1 hi'.2]; simp only [List.length_singleton]; omega
    · rw [cov_split (d + 1) hi', List.length_append]
      by_cases hl : lo ≤ base + tp (d + 1) - 1
      · by_cases hr : base + tp (d + 1) ≤ hi
        · have a := cov_one lo hi (d + 1) base (.inr (by omega))
          have b := cov_one lo hi (d + 1) (base + tp (d + 1)) (.inl (by omega))
          omega
        · rw [cov_out (d + 1) (base := base + tp (d + 1)) (by omega)]
          have := ih base; simp only [List.length_nil]; omega
      · rw [cov_out (d + 1) (base := base) (by omega)]
        have := ih (base + tp (d + 1)); simp only [List.length_nil]; omega

/-- The block around, twice as long, leaves the range. -/
def Big (lo hi : Int) (d : Nat) (base : Int) : Prop := 32 ≤ d ∨ ¬ (lo ≤ base - base % tp (d + 1) ∧ base - base % tp (d + 1) + tp (d + 1) - 1 ≤ hi)
theorem big_left {lo hi : Int} {d : Nat} {base : Int} (ha : base % tp (d + 1) = 0) (h : ¬ (lo ≤ base ∧ base + tp (d + 1) - 1 ≤ hi)) : Big lo hi d base := by
  refine .inr ?_
  rw [ha]; simpa using h
theorem mod_left {d : Nat} {base : Int} (ha : base % tp (d + 1) = 0) : base % tp d = 0 := by
  rw [tp_succ] at ha
  exact Int.emod_eq_zero_of_dvd (Int.dvd_trans (Int.dvd_mul_left 2 (tp d)) (Int.dvd_of_emod_eq_zero ha))
theorem mod_right {d : Nat} {base : Int} (ha : base % tp (d + 1) = 0) : (base + tp d) % tp d = 0 := by
  rw [Int.add_emod_right]; exact mod_left ha
theorem big_right {lo hi : Int} {d : Nat} {base : Int} (ha : base % tp (d + 1) = 0) (h : ¬ (lo ≤ base ∧ base + tp (d + 1) - 1 ≤ hi)) : Big lo hi d (base + tp d) := by
  have hp := tp_pos d
  have hs := tp_succ d
  have e : (base + tp d) % tp (d + 1) = tp d := by
    rw [Int.add_emod, ha, Int.zero_add, Int.emod_emod_of_dvd _ (Int.dvd_refl _)]
    exact Int.emod_eq_of_lt (by omega) (by omega)
  refine .inr ?_
  rw [e]
  intro h2
  exact h ⟨by omega, by omega⟩

/-- A chain of blocks from p to q, each inside the range and none that could be longer. -/
def Chain (lo hi : Int) : Int → List S32 → Int → Prop
  | p, [], q => p = q
  | p, x :: xs, q => ∃ d : Nat, d ≤ 32 ∧ x = ⟨p, 32 - (d : Int)⟩ ∧ 0 ≤ p ∧ p % tp d = 0 ∧ p + tp d - 1 ≤ hi ∧ Big lo hi d p ∧ Chain lo hi (p + tp d) xs q
theorem Chain.append {lo hi : Int} : ∀ {l m : List S32} {p q r : Int}, Chain lo hi p l q → Chain lo hi q m r → Chain lo hi p (l ++ m) r
  | [], _, _, _, _, h, h' => by cases h; exact h'
  | _ :: _, _, _, _, _, ⟨d, h1, h2, h3, h4, h5, h6, h7⟩, h' => ⟨d, h1, h2, h3, h4, h5, h6, Chain.append h7 h'⟩

theorem cov_chain (lo hi : Int) (d : Nat) : ∀ base : Int, d ≤ 32 → 0 ≤ base → base % tp d = 0 → Big lo hi d base → max lo base ≤ min hi (base + tp d - 1) →
    Chain lo hi (max lo base) (cov lo hi d base) (min hi (base + tp d - 1) + 1) := by
  induction d with
  | zero =>
    intro base hd h0 ha hb h
    have ht : tp 0 = 1 := rfl
    rw [cov_in 0 (by omega) (by omega)]
    rw [show max lo base = base from by omega]
    refine ⟨0, by omega, rfl, h0, ha, by omega, hb, ?_⟩
    show _ = _
    omega
  | succ d ih =>
    intro base hd h0 ha hb h
    have hp := tp_pos d
    have hs := tp_succ d
    by_cases hi' : lo ≤ base ∧ base + tp (d + 1) - 1 ≤ hi
    · rw [cov_in _ hi'.1 hi'.2, show max lo base = base from by omega]
      refine ⟨d + 1, hd, rfl, h0, ha, by omega, hb, ?_⟩
      show _ = _
      omega
    · rw [cov_split d hi']
      by_cases hl : max lo base ≤ min hi (base + tp d - 1)
      · have hL := ih base (by omega) h0 (mod_left ha) (big_left ha hi') hl
        by_cases hr : max lo (base + tp d) ≤ min hi (base + tp d + tp d - 1)
        · have hR := ih (base + tp d) (by omega) (by omega) (mod_right ha) (big_right ha hi') hr
          rw [show max lo (base + tp d) = min hi (base + tp d - 1) + 1 from by omega] at hR
          rw [show min hi (base + tp (d + 1) - 1) = min hi (base + tp d + tp d - 1) from by omega]
          exact hL.append hR
        · rw [cov_out d (base := base + tp d) (by omega), List.append_nil, show min hi (base + tp (d + 1) - 1) = min hi (base + tp d - 1) from by omega]
          exact hL
      · rw [cov_out d (base := base) (by omega), List.nil_append]
        have hR := ih (base + tp d) (by omega) (by omega) (mod_right ha) (big_right ha hi') (by omega)
        rw [show max lo (base + tp d) = max lo base from by omega, show min hi (base + tp d + tp d - 1) = min hi (base + tp (d + 1) - 1) from by omega] at hR
        exact hR

/-! ### the document's recursion -/
theorem size_tp {d k : Nat} (hd : d ≤ 32) (hk : 33 ≤ k) : weftref1_size.f k (32 - (d : Int)) = some (tp d) := by
  have := size_eq (n := 32 - d) (k := k) (by omega) hk
  rw [show ((32 - d : Nat) : Int) = 32 - (d : Int) from by omega] at this
  rw [this]
  unfold sz tp
  rw [show 32 - (32 - d) = d from by omega]

theorem covered_eq (lo hi : Int) (hlo : 0 ≤ lo) (hle : lo ≤ hi) (hhi : hi < 4294967296) (d : Nat) : ∀ (base : Int) (acc : List S32), d ≤ 32 → 0 ≤ base → base + tp d ≤ 4294967296 →
    (acc.length : Int) + 4294967296 * ((d : Int) + 1) ≤ 8796093022207 → ∀ k, 40 + 3 * d ≤ k → weftref1_covered.f k acc base (32 - (d : Int)) lo hi = some (acc ++ cov lo hi d base) := by
  have hlen : ∀ (d : Nat) (base : Int), 0 ≤ base → base + tp d ≤ 4294967296 → ((cov lo hi d base).length : Int) ≤ 4294967296 := by
    intro d base h0 hb
    have := tp_pos d
    by_cases h : max lo base ≤ min hi (base + tp d - 1)
    · have := cov_len lo hi d base h; omega
    · rw [cov_out d (by omega)]; simp
  induction d with
  | zero =>
    intro base acc hd h0 hb hl k hk
    obtain ⟨k, rfl⟩ : ∃ m, k = m + 3 := ⟨k - 3, by omega⟩
    have ht : tp 0 = 1 := rfl
    simp only [weftref1_covered.f]
    rw [size_tp (by omega) (by omega), Option.bind_some, ht, w64 (n := base + 1) (by omega) (by omega), w64 (n := base + 1 - 1) (by omega) (by omega)]
    by_cases h1 : lo > base
    · rw [if_pos (by omega), cov_out 0 (by omega)]; simp only [weftref1_covered.j0]; rw [if_pos trivial, List.append_nil]
    · rw [if_neg (by omega)]
      simp only [weftref1_covered.j0]
      by_cases h2 : hi < base
      · rw [if_pos (decide_eq_true h2), cov_out 0 (by omega), List.append_nil]
      · rw [if_neg (by simpa using h2), if_pos (by omega), show decide (base + 1 - 1 ≤ hi) = true from decide_eq_true (by omega)]
        simp only [weftref1_covered.j1]
        rw [if_pos trivial, if_pos (by omega), cov_in 0 (by omega) (by omega), Int.emod_eq_of_lt h0 (by omega)]
  | succ d ih =>
    intro base acc hd h0 hb hl k hk
    obtain ⟨k, rfl⟩ : ∃ m, k = m + 3 := ⟨k - 3, by omega⟩
    have hp := tp_pos d
    have hs := tp_succ d
    have hp1 := tp_pos (d + 1)
    simp only [weftref1_covered.f]
    rw [size_tp hd (by omega), Option.bind_some, w64 (n := base + tp (d + 1)) (by omega) (by omega), w64 (n := base + tp (d + 1) - 1) (by omega) (by omega)]
    have hrec : weftref1_covered.j1 (k + 1) acc base (32 - ((d + 1 : Nat) : Int)) lo hi false = some (acc ++ (cov lo hi d base ++ cov lo hi d (base + tp d))) := by
      simp only [weftref1_covered.j1]
      rw [if_neg (by decide), w64 (n := 32 - ((d + 1 : Nat) : Int) + 1) (by omega) (by omega), show (32 : Int) - ((d + 1 : Nat) : Int) + 1 = 32 - (d : Int) from by omega, size_tp (by omega) (by omega), Option.bind_some,
        ih base acc (by omega) h0 (by omega) (by omega) k (by omega), Option.bind_some, w64 (n := base + tp d) (by omega) (by omega)]
      have := hlen d base h0 (by omega)
      rw [ih (base + tp d) (acc ++ cov lo hi d base) (by omega) (by omega) (by omega) (by rw [List.length_append]; omega) k (by omega), Option.bind_some, List.append_assoc]
    by_cases h1 : lo > base + tp (d + 1) - 1
    · rw [if_pos h1, cov_out _ (.inl h1)]; simp only [weftref1_covered.j0]; rw [if_pos trivial, List.append_nil]
    · rw [if_neg h1]
      simp only [weftref1_covered.j0]
      by_cases h2 : hi < base
      · rw [if_pos (decide_eq_true h2), cov_out _ (.inr h2), List.append_nil]
      · rw [if_neg (by simpa using h2)]
        by_cases h3 : lo ≤ base
        · rw [if_pos h3]
          by_cases h4 : base + tp (d + 1) - 1 ≤ hi
          · rw [decide_eq_true h4]
            simp only [weftref1_covered.j1]
            rw [if_pos trivial, if_pos (by omega), cov_in _ h3 h4, Int.emod_eq_of_lt h0 (by omega)]
          · rw [decide_eq_false h4, hrec, cov_split d (fun h => h4 h.2)]
        · rw [if_neg h3, hrec, cov_split d (fun h => h3 h.1)]

/-! ### the greedy walk -/
theorem valid_tp {a : Int} {d k : Nat} (h0 : 0 ≤ a) (h1 : a < 4294967296) (hd : d ≤ 32) (hk : 1 ≤ k) : addr_Valid.f k a (32 - (d : Int)) = some (decide (a % tp d = 0)) := by
  have := valid_eq (n := 32 - d) h0 h1 (by omega) hk
  rw [show ((32 - d : Nat) : Int) = 32 - (d : Int) from by omega] at this
  rw [this]; unfold sz tp; rw [show 32 - (32 - d) = d from by omega]
theorem last_tp {a : Int} {d : Nat} (h0 : 0 ≤ a) (h1 : a < 4294967296) (hd : d ≤ 32) (ha : a % tp d = 0) : addr_last.f a (32 - (d : Int)) = some (a + tp d - 1) := by
  have e : (sz (32 - d) : Int) = tp d := by unfold sz tp; rw [show 32 - (32 - d) = d from by omega]
  have := last_eq (n := 32 - d) h0 h1 (by omega) (by rw [e]; exact ha)
  rw [show ((32 - d : Nat) : Int) = 32 - (d : Int) from by omega, e] at this
  exact this

/-- the inner loop comes to the greatest block -/
theorem greedy_in {a hi : Int} {acc : List S32} {d : Nat} (h0 : 0 ≤ a) (h1 : a < 4294967296) (hd : d ≤ 32) (ha : a % tp d = 0) (hf : a + tp d - 1 ≤ hi)
    (hb : 32 ≤ d ∨ ¬ (a % tp (d + 1) = 0 ∧ a + tp (d + 1) - 1 ≤ hi)) {r : List S32} (h : Ev (fun k => addr_Cover.j2 k hi acc a (32 - (d : Int))) r) (j : Nat) :
    ∀ e, e + j = d → Ev (fun k => addr_Cover.l1 k a hi acc a (32 - (e : Int))) r := by
  induction j with
  | zero =>
    intro e he
    obtain rfl : e = d := by omega
    obtain ⟨K, hK⟩ := h
    refine ⟨K + 2, fun k hk => ?_⟩
    obtain ⟨k, rfl⟩ : ∃ m, k = m + 1 := ⟨k - 1, by omega⟩
    simp only [addr_Cover.l1]
    have hgt : a % tp (e + 1) = 0 → 32 ≤ e ∨ a + tp (e + 1) - 1 > hi := by
      intro hv
      rcases hb with hb | hb
      · exact .inl hb
      · refine .inr ?_
        have := fun h => hb ⟨hv, h⟩
        omega
    by_cases h32 : 32 ≤ e
    · rw [if_neg (by omega)]; exact hK k (by omega)
    · rw [if_pos (by omega), w64 (n := 32 - (e : Int) - 1) (by omega) (by omega), show (32 : Int) - (e : Int) - 1 = 32 - ((e + 1 : Nat) : Int) from by omega, valid_tp h0 h1 (by omega) (by omega), Option.bind_some]
      by_cases hv : a % tp (e + 1) = 0
      · rw [if_pos (decide_eq_true hv), last_tp h0 h1 (by omega) hv, Option.bind_some, if_pos ((hgt hv).resolve_left h32)]
        exact hK k (by omega)
      · rw [if_neg (by simpa using hv)]; exact hK k (by omega)
  | succ j ih =>
    intro e he
    obtain ⟨K, hK⟩ := ih (e + 1) (by omega)
    refine ⟨K + 2, fun k hk => ?_⟩
    obtain ⟨k, rfl⟩ : ∃ m, k = m + 1 := ⟨k - 1, by omega⟩
    have hdiv : ∀ i, a % tp (e + 1 + i) = 0 → a % tp (e + 1) = 0 := by
      intro i
      induction i with
      | zero => exact id
      | succ i ih => exact fun h => ih (mod_left h)
    have hmono : ∀ i, tp (e + 1) ≤ tp (e + 1 + i) := by
      intro i
      induction i with
      | zero => exact Int.le_refl _
      | succ i ih => have := tp_succ (e + 1 + i); have := tp_pos (e + 1 + i); rw [show e + 1 + (i + 1) = e + 1 + i + 1 from rfl]; omega
    have hv : a % tp (e + 1) = 0 := hdiv j (by rw [show e + 1 + j = d from by omega]; exact ha)
    have hle : tp (e + 1) ≤ tp d := by have := hmono j; rwa [show e + 1 + j = d from by omega] at this
    simp only [addr_Cover.l1]
    rw [if_pos (by omega), w64 (n := 32 - (e : Int) - 1) (by omega) (by omega), show (32 : Int) - (e : Int) - 1 = 32 - ((e + 1 : Nat) : Int) from by omega, valid_tp h0 h1 (by omega) (by omega), Option.bind_some,
      if_pos (decide_eq_true hv), last_tp h0 h1 (by omega) hv, Option.bind_some, if_neg (by omega)]
    exact hK k (by omega)

/-- what the walk comes to from place p on -/
def Gr (p hi : Int) (acc r : List S32) : Prop := if p ≤ hi then Ev (fun k => addr_Cover.l0 k p hi acc) r else r = acc

theorem gr_step {a hi : Int} {acc r : List S32} {d : Nat} (hhi : hi < 4294967296) (h0 : 0 ≤ a) (hd : d ≤ 32) (ha : a % tp d = 0) (hf : a + tp d - 1 ≤ hi)
    (hb : 32 ≤ d ∨ ¬ (a % tp (d + 1) = 0 ∧ a + tp (d + 1) - 1 ≤ hi)) (hlen : (acc.length : Int) ≤ a) (h : Gr (a + tp d) hi (acc ++ [⟨a, 32 - (d : Int)⟩]) r) : Gr a hi acc r := by
  have hp := tp_pos d
  have h1 : a < 4294967296 := by omega
  unfold Gr
  rw [if_pos (by omega)]
  have hj : Ev (fun k => addr_Cover.j2 k hi acc a (32 - (d : Int))) r := by
    unfold Gr at h
    by_cases ht : a + tp d = 4294967296
    · rw [if_neg (by omega)] at h
      subst h
      refine ⟨1, fun k hk => ?_⟩
      obtain ⟨k, rfl⟩ : ∃ m, k = m + 1 := ⟨k - 1, by omega⟩
      simp only [addr_Cover.j2]
      rw [if_pos (by omega), Option.bind_some, last_tp h0 h1 hd ha, Option.bind_some, if_pos (by omega)]
    · by_cases hle : a + tp d ≤ hi
      · rw [if_pos hle] at h
        obtain ⟨K, hK⟩ := h
        refine ⟨K + 1, fun k hk => ?_⟩
        obtain ⟨k, rfl⟩ : ∃ m, k = m + 1 := ⟨k - 1, by omega⟩
        simp only [addr_Cover.j2]
        rw [if_pos (by omega), Option.bind_some, last_tp h0 h1 hd ha, Option.bind_some, if_neg (by omega), Option.bind_some, Int.emod_eq_of_lt (by omega) (by omega), show a + tp d - 1 + 1 = a + tp d from by omega]
        exact hK k (by omega)
      · rw [if_neg hle] at h
        subst h
        refine ⟨2, fun k hk => ?_⟩
        obtain ⟨k, rfl⟩ : ∃ m, k = m + 2 := ⟨k - 2, by omega⟩
        simp only [addr_Cover.j2]
        rw [if_pos (by omega), Option.bind_some, last_tp h0 h1 hd ha, Option.bind_some, if_neg (by omega), Option.bind_some, Int.emod_eq_of_lt (by omega) (by omega)]
        simp only [addr_Cover.l0]
        rw [if_neg (by omega)]
  obtain ⟨K, hK⟩ := greedy_in h0 h1 hd ha hf hb hj d 0 (by omega)
  refine ⟨K + 1, fun k hk => ?_⟩
  obtain ⟨k, rfl⟩ : ∃ m, k = m + 1 := ⟨k - 1, by omega⟩
  simp only [addr_Cover.l0]
  rw [if_pos (by omega)]
  exact hK k (by omega)

/-- from the first address of the block that lies in the range to behind the last one -/
theorem gr_block (lo hi : Int) (_hlo : 0 ≤ lo) (hhi : hi < 4294967296) (d : Nat) : ∀ (base : Int) (acc r : List S32), d ≤ 32 → 0 ≤ base → base % tp d = 0 → Big lo hi d base →
    max lo base ≤ min hi (base + tp d - 1) → (acc.length : Int) ≤ max lo base → Gr (min hi (base + tp d - 1) + 1) hi (acc ++ cov lo hi d base) r → Gr (max lo base) hi acc r := by
  induction d with
  | zero =>
    intro base acc r hd h0 ha hb h hlen hg
    have ht : tp 0 = 1 := rfl
    have ht1 : tp (0 + 1) = 2 := rfl
    rw [cov_in 0 (by omega) (by omega)] at hg
    rw [show max lo base = base from by omega] at hlen ⊢
    refine gr_step (d := 0) hhi h0 (by omega) ha (by omega) ?_ hlen (by rw [show base + tp 0 = min hi (base + tp 0 - 1) + 1 from by omega]; exact hg)
    rcases hb with hb | hb
    · exact .inl hb
    · refine .inr fun hx => hb ?_
      rw [hx.1]; omega
  | succ d ih =>
    intro base acc r hd h0 ha hb h hlen hg
    have hp := tp_pos d
    have hs := tp_succ d
    by_cases hi' : lo ≤ base ∧ base + tp (d + 1) - 1 ≤ hi
    · rw [cov_in _ hi'.1 hi'.2] at hg
      rw [show max lo base = base from by omega] at hlen ⊢
      refine gr_step (d := d + 1) hhi h0 hd ha (by omega) ?_ hlen (by rw [show base + tp (d + 1) = min hi (base + tp (d + 1) - 1) + 1 from by omega]; exact hg)
      rcases hb with hb | hb
      · exact .inl hb
      · refine .inr fun hx => hb ?_
        rw [hx.1]; omega
    · rw [cov_split d hi'] at hg
      by_cases hl : max lo base ≤ min hi (base + tp d - 1)
      · refine ih base acc r (by omega) h0 (mod_left ha) (big_left ha hi') hl hlen ?_
        by_cases hr : max lo (base + tp d) ≤ min hi (base + tp d + tp d - 1)
        · have hn := cov_len lo hi d base hl
          rw [show min hi (base + tp d - 1) + 1 = max lo (base + tp d) from by omega]
          refine ih (base + tp d) _ r (by omega) (by omega) (mod_right ha) (big_right ha hi') hr (by rw [List.length_append]; omega) ?_
          rw [List.append_assoc, show min hi (base + tp d + tp d - 1) = min hi (base + tp (d + 1) - 1) from by omega]
          exact hg
        · rw [cov_out d (base := base + tp d) (by omega), List.append_nil, show min hi (base + tp (d + 1) - 1) = min hi (base + tp d - 1) from by omega] at hg
          exact hg
      · rw [cov_out d (base := base) (by omega), List.nil_append] at hg
        rw [show max lo base = max lo (base + tp d) from by omega] at hlen ⊢
        refine ih (base + tp d) acc r (by omega) (by omega) (mod_right ha) (big_right ha hi') (by omega) hlen ?_
        rw [show min hi (base + tp d + tp d - 1) = min hi (base + tp (d + 1) - 1) from by omega]
        exact hg

/-- the whole cover -/
def cover (lo hi : Int) : List S32 := if lo > hi then [] else cov lo hi 32 0
theorem tp32 : tp 32 = 4294967296 := rfl

theorem cover_ev (lo hi : Int) (hlo : 0 ≤ lo) (hhi : hi < 4294967296) : Ev (fun k => addr_Cover.f k lo hi) (cover lo hi) := by
  unfold addr_Cover.f cover
  by_cases h : lo > hi
  · rw [if_pos h]
    refine ⟨1, fun k hk => ?_⟩
    obtain ⟨k, rfl⟩ : ∃ m, k = m + 1 := ⟨k - 1, by omega⟩
    simp only [addr_Cover.l0]
    rw [if_neg (by omega)]
  · rw [if_neg h]
    have ht := tp32
    have hg := gr_block lo hi hlo hhi 32 0 [] (cov lo hi 32 0) (by omega) (by omega) (by simp) (.inl (Nat.le_refl _)) (by omega) (by simp; omega)
      (by unfold Gr; rw [if_neg (by omega)]; rfl)
    rw [show max lo 0 = lo from by omega] at hg
    unfold Gr at hg
    rw [if_pos (by omega)] at hg
    exact hg

theorem cover_chain {lo hi : Int} (hlo : 0 ≤ lo) (hhi : hi < 4294967296) (h : lo ≤ hi) : Chain lo hi lo (cover lo hi) (hi + 1) := by
  have ht := tp32
  unfold cover
  rw [if_neg (by omega)]
  have := cov_chain lo hi 32 0 (by omega) (by omega) (by simp) (.inl (Nat.le_refl _)) (by omega)
  rw [show max lo 0 = lo from by omega, show min hi (0 + tp 32 - 1) = hi from by omega] at this
  exact this
theorem cover_62 (lo hi : Int) : (cover lo hi).length ≤ 62 := by
  unfold cover
  split
  · simp
  · exact cov_two lo hi 31 0
theorem cover_len (lo hi : Int) : (cover lo hi).length ≤ 62 := cover_62 lo hi
end Go.Proofs.Ytncpcjphljfcpaa.Pure
