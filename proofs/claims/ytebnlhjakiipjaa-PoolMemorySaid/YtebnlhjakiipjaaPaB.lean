/- Prefixes in numbers: which are valid, which addresses one contains, what New is asked ahead of the kept ones. No condition beyond the kinds' own ranges. number and subnet walked; what a pool's network and row are good for. Conditions: the subnets' length is from 0 to 32. Claim walked in full. Conditions: what a pool's numbers are good for; fewer than 2^40 runs. -/
import Derived.Test.YtebnlhjakiipjaaPPlfx
import Derived.Laws.BitsAllLaws
import Derived.Test.YtebnlhjakiipjaaPaA
set_option linter.unusedVariables false
set_option linter.unusedSimpArgs false
namespace Go.Proofs.Ytebnlhjakiipjaa.Pl
open Go.RowKit Go.Proofs.YtebnlhjakiipjaaW.PrintWords Go.Proofs.YtebnlhjakiipjaaW.PrintMore Go.Proofs.Ytebnlhjakiipjaa.PPlf
def sizeF (l : Int) : Int := 2 ^ (32 - l).toNat
/-- the size of a block of length n -/
def sz (n : Nat) : Nat := 2 ^ (32 - n)
theorem sz_pos (n : Nat) : 0 < sz n := Nat.two_pow_pos _
theorem sz_le (n : Nat) : sz n ≤ 4294967296 := by
  unfold sz
  have : 2 ^ (32 - n) ≤ 2 ^ 32 := Nat.pow_le_pow_right (by omega) (by omega)
  omega
theorem sz_sizeF {l : Int} (h0 : 0 ≤ l) (h1 : l ≤ 32) : (sz l.toNat : Int) = sizeF l := by
  unfold sz sizeF
  rw [show (32 - l).toNat = 32 - l.toNat from by omega]
  push_cast; rfl
theorem sizeF_rng {l : Int} (h0 : 0 ≤ l) (h1 : l ≤ 32) : 1 ≤ sizeF l ∧ sizeF l ≤ 4294967296 := by
  rw [← sz_sizeF h0 h1]
  have := sz_pos l.toNat
  have := sz_le l.toNat
  omega
theorem sizeF_div {l m : Int} (h0 : 0 ≤ l) (h1 : l ≤ m) (h2 : m ≤ 32) : ∃ q : Int, 1 ≤ q ∧ sizeF l = sizeF m * q := by
  refine ⟨2 ^ (m - l).toNat, ?_, ?_⟩
  · have : (0 : Int) < 2 ^ (m - l).toNat := Int.pow_pos (by omega)
    omega
  · unfold sizeF
    rw [← Int.pow_add, show (32 - l).toNat = (32 - m).toNat + (m - l).toNat from by omega]
theorem sizeF_all {l : Int} (h0 : 0 ≤ l) (h1 : l ≤ 32) : ∃ q : Int, 1 ≤ q ∧ 4294967296 = sizeF l * q := by
  obtain ⟨q, h, e⟩ := sizeF_div (l := 0) (m := l) (by omega) h0 h1
  exact ⟨q, h, e⟩
def vld (a l : Int) : Prop := 0 ≤ l ∧ l ≤ 32 ∧ a % sizeF l = 0
instance (a l : Int) : Decidable (vld a l) := by unfold vld; infer_instance
def ins (na nl a : Int) : Prop := vld na nl ∧ na ≤ a ∧ a < na + sizeF nl
instance (na nl a : Int) : Decidable (ins na nl a) := by unfold ins; infer_instance
theorem mask_all : ∀ n : Nat, n < 33 → addr_mask.f (n : Int) = some ((4294967296 - sz n : Nat) : Int) := by decide +kernel
theorem mod_sz {a : Int} (n : Nat) (h0 : 0 ≤ a) : ((a.toNat % sz n : Nat) : Int) = a % (sz n : Int) := by
  have : ((a.toNat : Nat) : Int) = a := Int.toNat_of_nonneg h0
  rw [Int.natCast_emod, this]
theorem fault_eq {a : Int} {n k : Nat} (h0 : 0 ≤ a) (h1 : a < 4294967296) (hn : n ≤ 32) (hk : 1 ≤ k) :
    addr_fault.f k a n = some (if a % (sz n : Int) = 0 then 0 else 12) := by
  obtain ⟨k, rfl⟩ : ∃ m, k = m + 1 := ⟨k - 1, by omega⟩
  have hle := sz_le n
  have hp := sz_pos n
  unfold addr_fault.f
  rw [if_neg (by omega), show decide ((n : Int) > 32) = false from decide_eq_false (by omega)]
  simp only [addr_fault.j0]
  rw [if_neg (by decide), mask_all n (by omega), Option.bind_some, Go.u32_andNot _ _ h0 h1 (by omega) (by omega)]
  have e : 4294967295 - (((4294967296 - sz n : Nat) : Int)).toNat = sz n - 1 := by omega
  rw [e]
  have hm : a.toNat &&& (sz n - 1) = a.toNat % sz n := Nat.and_two_pow_sub_one_eq_mod _ _
  rw [hm, mod_sz n h0]
  split <;> rfl
theorem fault_bad {a m : Int} {k : Nat} (hm : m < 0 ∨ 32 < m) (hk : 1 ≤ k) : addr_fault.f k a m = some 11 := by
  obtain ⟨k, rfl⟩ : ∃ m, k = m + 1 := ⟨k - 1, by omega⟩
  unfold addr_fault.f
  by_cases h : m < 0
  · rw [if_pos h]; simp only [addr_fault.j0]; rw [if_pos trivial]
  · rw [if_neg h, show decide (m > 32) = true from decide_eq_true (by omega)]; simp only [addr_fault.j0]; rw [if_pos trivial]
theorem valid_all {a l : Int} {k : Nat} (h0 : 0 ≤ a) (h1 : a < 4294967296) (hk : 1 ≤ k) : addr_Valid.f k a l = some (decide (vld a l)) := by
  unfold addr_Valid.f
  by_cases hl : 0 ≤ l ∧ l ≤ 32
  · obtain ⟨n, rfl⟩ : ∃ n : Nat, l = n := ⟨l.toNat, by omega⟩
    have hs := sz_sizeF hl.1 hl.2
    rw [Int.toNat_natCast] at hs
    rw [fault_eq h0 h1 (by omega) hk, Option.bind_some, hs]
    by_cases h : a % sizeF n = 0
    · rw [if_pos h, decide_eq_true (show vld a n from ⟨hl.1, hl.2, h⟩)]; rfl
    · rw [if_neg h, decide_eq_false (fun c : vld a n => h c.2.2)]; rfl
  · rw [fault_bad (by omega) hk, Option.bind_some, decide_eq_false (fun c : vld a l => hl ⟨c.1, c.2.1⟩)]; rfl
theorem and_high (x k : Nat) (hk : k ≤ 32) (hx : x < 4294967296) : x &&& (4294967296 - 2 ^ k) = x / 2 ^ k * 2 ^ k := by
  have h1 : x / 2 ^ k * 2 ^ k = (x >>> k) <<< k := by rw [Nat.shiftRight_eq_div_pow, Nat.shiftLeft_eq]
  rw [h1]
  have hp : 0 < 2 ^ k := Nat.two_pow_pos k
  apply Nat.eq_of_testBit_eq
  intro i
  have e : 4294967296 - 2 ^ k = 2 ^ 32 - ((2 ^ k - 1) + 1) := by omega
  have hle : 2 ^ k ≤ 2 ^ 32 := Nat.pow_le_pow_right (by omega) hk
  rw [Nat.testBit_and, e, Nat.testBit_two_pow_sub_succ (by omega), Nat.testBit_two_pow_sub_one, Nat.testBit_shiftLeft, Nat.testBit_shiftRight]
  by_cases hi : k ≤ i
  · rw [show k + (i - k) = i from by omega]
    by_cases h32 : i < 32
    · simp [hi, h32]
    · have : x.testBit i = false := Nat.testBit_lt_two_pow (by
        have : 2 ^ 32 ≤ 2 ^ i := Nat.pow_le_pow_right (by omega) (by omega)
        omega)
      simp [this]
  · simp [hi]; omega
theorem and_mask {x : Int} {n : Nat} (h0 : 0 ≤ x) (h1 : x < 4294967296) (hn : n ≤ 32) : Go.bits .and .u32 x ((4294967296 - sz n : Nat) : Int) = x - x % (sz n : Int) := by
  have hp := sz_pos n
  have hle := sz_le n
  rw [Go.u32_and _ _ h0 h1 (by omega) (by omega), Int.toNat_natCast]
  have := and_high x.toNat (32 - n) (by omega) (by omega)
  unfold sz at *
  rw [this]
  have e := Nat.div_add_mod x.toNat (2 ^ (32 - n))
  have e2 := mod_sz n h0
  unfold sz at e2
  have e3 : x.toNat / 2 ^ (32 - n) * 2 ^ (32 - n) = x.toNat - x.toNat % 2 ^ (32 - n) := by rw [Nat.mul_comm]; omega
  rw [e3, ← e2]
  have := Nat.mod_le x.toNat (2 ^ (32 - n))
  omega
/-- which addresses a prefix contains -/
theorem contains_all {na nl a : Int} {k : Nat} (hb0 : 0 ≤ na) (hb1 : na < 4294967296) (ha0 : 0 ≤ a) (ha1 : a < 4294967296) (hk : 1 ≤ k) :
    addr_Contains.f k na nl a = some (decide (ins na nl a)) := by
  unfold addr_Contains.f
  rw [valid_all hb0 hb1 hk, Option.bind_some]
  by_cases hv : vld na nl
  · rw [if_pos (decide_eq_true hv)]
    obtain ⟨hl0, hl1, hd⟩ := hv
    obtain ⟨n, rfl⟩ : ∃ n : Nat, nl = n := ⟨nl.toNat, by omega⟩
    have hsz := sz_sizeF (l := (n : Int)) hl0 hl1
    rw [Int.toNat_natCast] at hsz
    rw [mask_all n (by omega), Option.bind_some, and_mask ha0 ha1 (by omega), hsz]
    have hp := (sizeF_rng hl0 hl1).1
    have hvv : vld na n := ⟨hl0, hl1, hd⟩
    have hins : decide (ins na n a) = decide (na ≤ a ∧ a < na + sizeF n) := by
      by_cases c : na ≤ a ∧ a < na + sizeF n
      · rw [decide_eq_true c, decide_eq_true (show ins na n a from ⟨hvv, c⟩)]
      · rw [decide_eq_false c, decide_eq_false (fun h : ins na n a => c h.2)]
    rw [hins]
    clear hins hvv
    generalize hz : sizeF n = z at *
    congr 1
    have key : a - a % z = na ↔ (na ≤ a ∧ a < na + z) := by
      have e1 := Int.emod_nonneg a (show z ≠ 0 by omega)
      have e2 := Int.emod_lt_of_pos a (show 0 < z by omega)
      constructor
      · intro e; omega
      · rintro ⟨c1, c2⟩
        have e3 : a % z = a - na := by
          have : a % z = (a - na) % z := by
            rw [Int.sub_emod, hd]; simp
          rw [this]; exact Int.emod_eq_of_lt (by omega) (by omega)
        omega
    by_cases c : na ≤ a ∧ a < na + z
    · rw [decide_eq_true c, key.2 c]; simp
    · rw [decide_eq_false c]
      have : ¬ a - a % z = na := fun e => c (key.1 e)
      simpa using this
  · rw [if_neg (by rw [decide_eq_false hv]; decide), decide_eq_false (fun c : ins na nl a => hv c.1)]
/-! the document's -/
theorem w64 {x : Int} (h0 : 0 ≤ x) (h1 : x < 9223372036854775808) : wrap64 x = x := by unfold wrap64; omega
theorem rsize_l {m : Nat} : ∀ (j : Nat) (x l : Int), 0 ≤ x → l = 32 - (m : Int) → m ≤ 32 → x * 2 ^ m ≤ 4294967296 → weftref1_size.l0 (m + 1 + j) x l = some (x * 2 ^ m) := by
  induction m with
  | zero =>
    intro j x l h0 hl hm hx
    rw [show 0 + 1 + j = j + 1 from by omega]
    simp only [weftref1_size.l0]
    rw [if_neg (by omega)]; simp
  | succ m ih =>
    intro j x l h0 hl hm hx
    rw [show m + 1 + 1 + j = (m + 1 + j) + 1 from by omega]
    simp only [weftref1_size.l0]
    have e : x * 2 ^ (m + 1) = (2 * x) * 2 ^ m := by rw [Int.pow_succ, Int.mul_comm (2 ^ m) 2, ← Int.mul_assoc, Int.mul_comm x 2]
    have hp : (1 : Int) ≤ 2 ^ m := by have : (0 : Int) < 2 ^ m := Int.pow_pos (by omega); omega
    have hx2 : 2 * x ≤ 4294967296 := by
      rw [e] at hx
      have := Int.mul_le_mul_of_nonneg_left hp (show 0 ≤ 2 * x by omega)
      omega
    rw [if_pos (by omega), w64 (by omega) (by omega), w64 (by omega) (by omega), e]
    exact ih j (2 * x) (l + 1) (by omega) (by omega) (by omega) (by rw [← e]; exact hx)
theorem rsize_all {l : Int} {k : Nat} (h0 : 0 ≤ l) (h1 : l ≤ 32) (hk : 33 ≤ k) : weftref1_size.f k l = some (sizeF l) := by
  have := rsize_l (m := (32 - l).toNat) (k - (32 - l).toNat - 1) 1 l (by omega) (by omega) (by omega) (by have := (sizeF_rng h0 h1).2; unfold sizeF at this; omega)
  rw [show (32 - l).toNat + 1 + (k - (32 - l).toNat - 1) = k from by omega, Int.one_mul] at this
  exact this
theorem r10size_same : ∀ (k : Nat) (x l : Int), weftref10_size.l0 k x l = weftref1_size.l0 k x l
  | 0, x, l => rfl
  | k + 1, x, l => by simp only [weftref10_size.l0, weftref1_size.l0, r10size_same k]
theorem r10size_all {l : Int} {k : Nat} (h0 : 0 ≤ l) (h1 : l ≤ 32) (hk : 33 ≤ k) : weftref10_size.f k l = some (sizeF l) := by
  unfold weftref10_size.f
  rw [r10size_same]; exact rsize_all h0 h1 hk
theorem rfault_all {a l : Int} {k : Nat} (h0 : 0 ≤ a) (h1 : a < 4294967296) (hk : 34 ≤ k) : weftref1_fault.f k a l = some (if l < 0 ∨ 32 < l then 11 else if a % sizeF l = 0 then 0 else 12) := by
  obtain ⟨k, rfl⟩ : ∃ m, k = m + 1 := ⟨k - 1, by omega⟩
  unfold weftref1_fault.f
  by_cases hl : l < 0 ∨ 32 < l
  · rw [if_pos hl]
    by_cases h : l < 0
    · rw [if_pos h]; simp only [weftref1_fault.j0]; rw [if_pos trivial]
    · rw [if_neg h, show decide (l > 32) = true from decide_eq_true (by omega)]; simp only [weftref1_fault.j0]; rw [if_pos trivial]
  · rw [if_neg hl, if_neg (by omega), show decide (l > 32) = false from decide_eq_false (by omega)]
    simp only [weftref1_fault.j0]
    have hs := sizeF_rng (l := l) (by omega) (by omega)
    rw [if_neg (by decide), rsize_all (by omega) (by omega) (by omega), Option.bind_some, if_neg (by omega), w64 h0 (by omega), Int.tmod_eq_emod_of_nonneg h0]
    split <;> rfl
theorem rvalid_all {a l : Int} {k : Nat} (h0 : 0 ≤ a) (h1 : a < 4294967296) (hk : 34 ≤ k) : weftref1_Valid.f k a l = some (decide (vld a l)) := by
  unfold weftref1_Valid.f
  rw [rfault_all h0 h1 hk, Option.bind_some]
  by_cases hl : l < 0 ∨ 32 < l
  · rw [if_pos hl, decide_eq_false (fun c : vld a l => by have := c.1; have := c.2.1; omega)]; rfl
  · rw [if_neg hl]
    by_cases h : a % sizeF l = 0
    · rw [if_pos h, decide_eq_true (show vld a l from ⟨by omega, by omega, h⟩)]; rfl
    · rw [if_neg h, decide_eq_false (fun c : vld a l => h c.2.2)]; rfl
theorem aligned_all {a l s : Int} {k : Nat} (h0 : 0 ≤ a) (h1 : a < 4294967296) (hk : 34 ≤ k) : weftref10_aligned.f k a l s = some (decide (vld a l) && l == s) := by
  unfold weftref10_aligned.f
  rw [rvalid_all h0 h1 hk, Option.bind_some]
  by_cases h : vld a l
  · rw [if_pos (decide_eq_true h), decide_eq_true h, Bool.true_and]
  · rw [if_neg (by rw [decide_eq_false h]; decide), decide_eq_false h, Bool.false_and]
theorem sizeF_fit {na nl : Int} (hb0 : 0 ≤ na) (hb1 : na < 4294967296) (hv : vld na nl) : na + sizeF nl ≤ 4294967296 := by
  obtain ⟨h0, h1, hd⟩ := hv
  obtain ⟨q, hq, e⟩ := sizeF_all h0 h1
  have hs := sizeF_rng h0 h1
  obtain ⟨c, hc⟩ : ∃ c, na = sizeF nl * c := ⟨na / sizeF nl, by have := Int.emod_add_mul_ediv na (sizeF nl); omega⟩
  have hlt : c < q := by
    rcases Int.lt_or_le c q with h | h
    · exact h
    · have := Int.mul_le_mul_of_nonneg_left h (show 0 ≤ sizeF nl by omega)
      omega
  have := Int.mul_le_mul_of_nonneg_left (show c + 1 ≤ q by omega) (show 0 ≤ sizeF nl by omega)
  rw [Int.mul_add] at this
  omega
theorem rcontains_all {na nl a : Int} {k : Nat} (hb0 : 0 ≤ na) (hb1 : na < 4294967296) (ha0 : 0 ≤ a) (ha1 : a < 4294967296) (hk : 34 ≤ k) :
    weftref1_Contains.f k na nl a = some (decide (ins na nl a)) := by
  unfold weftref1_Contains.f weftref1_Span.f
  rw [rfault_all hb0 hb1 hk, Option.bind_some]
  by_cases hv : vld na nl
  · have hfit := sizeF_fit hb0 hb1 hv
    have hvv := hv
    obtain ⟨h0, h1, hd⟩ := hv
    have hs := sizeF_rng h0 h1
    rw [if_neg (show ¬ (nl < 0 ∨ 32 < nl) by omega), if_pos hd, if_pos rfl, rsize_all h0 h1 (by omega), Option.bind_some, Option.bind_some, w64 hb0 (by omega), w64 (x := na + sizeF nl) (by omega) (by omega), w64 (x := na + sizeF nl - 1) (by omega) (by omega), if_pos rfl]
    simp only
    rw [Int.emod_eq_of_lt (by omega) (by omega)]
    by_cases c : na ≤ a
    · rw [if_pos c]
      by_cases c2 : a < na + sizeF nl
      · rw [decide_eq_true (show ins na nl a from ⟨hvv, c, c2⟩), decide_eq_true (by omega)]
      · rw [decide_eq_false (fun h : ins na nl a => c2 h.2.2), decide_eq_false (by omega)]
    · rw [if_neg c, decide_eq_false (fun h : ins na nl a => c h.2.1)]
  · rw [decide_eq_false (fun h : ins na nl a => hv h.1)]
    by_cases hl : nl < 0 ∨ 32 < nl
    · rw [if_pos hl, if_neg (by decide), Option.bind_some, if_neg (by simp)]
    · rw [if_neg hl]
      have hd : ¬ na % sizeF nl = 0 := fun c => hv ⟨by omega, by omega, c⟩
      rw [if_neg hd, if_neg (by decide), Option.bind_some, if_neg (by simp)]
/-- what New finds wrong ahead of the kept ones -/
def faultF (na nl s lo hi : Int) : Int :=
  if vld na nl then (if s < nl ∨ 32 < s ∨ hi < lo then 1 else if vld lo s ∧ vld hi s then (if ins na nl lo ∧ ins na nl hi then 0 else 101) else 100) else 11
theorem fault_all {na nl s lo hi : Int} {k : Nat} (hb0 : 0 ≤ na) (hb1 : na < 4294967296) (hl0 : 0 ≤ lo) (hl1 : lo < 4294967296) (hh0 : 0 ≤ hi) (hh1 : hi < 4294967296) (hk : 4 ≤ k) :
    pool_fault.f k na nl s lo hi = some (faultF na nl s lo hi) := by
  obtain ⟨k, rfl⟩ : ∃ m, k = m + 2 := ⟨k - 2, by omega⟩
  have hal : ∀ a l : Int, 0 ≤ a → a < 4294967296 → pool_aligned.f (k + 1) a l = some (decide (vld a l)) := fun a l h0 h1 => by
    unfold pool_aligned.f
    rw [valid_all h0 h1 (by omega)]; rfl
  unfold pool_fault.f faultF
  rw [valid_all hb0 hb1 (by omega), Option.bind_some]
  by_cases hv : vld na nl
  · rw [if_pos (decide_eq_true hv), if_pos hv]
    have tr : ∀ b : Bool, pool_fault.j0 (k + 2) s lo hi b na nl = some (if b = true then 1 else if vld lo s ∧ vld hi s then (if ins na nl lo ∧ ins na nl hi then 0 else 101) else 100) := fun b => by
      simp only [pool_fault.j0]
      cases b with
      | true => rfl
      | false =>
        rw [if_neg (by decide), if_neg (by decide), hal _ _ hl0 hl1, hal _ _ hh0 hh1, Option.bind_some, Option.bind_some]
        have tr2 : ∀ b : Bool, pool_fault.j1 (k + 1) lo hi b na nl = some (if b = true then 100 else if ins na nl lo ∧ ins na nl hi then 0 else 101) := fun b => by
          simp only [pool_fault.j1]
          cases b with
          | true => rfl
          | false =>
            rw [if_neg (by decide), if_neg (by decide), contains_all hb0 hb1 hl0 hl1 (by omega), contains_all hb0 hb1 hh0 hh1 (by omega), Option.bind_some, Option.bind_some]
            by_cases c1 : ins na nl lo
            · rw [if_pos (decide_eq_true c1)]
              by_cases c2 : ins na nl hi
              · rw [if_pos (decide_eq_true c2), if_pos ⟨c1, c2⟩]
              · rw [if_neg (by rw [decide_eq_false c2]; decide), if_neg (fun h => c2 h.2)]
            · rw [if_neg (by rw [decide_eq_false c1]; decide), if_neg (fun h => c1 h.1)]
        by_cases c1 : vld lo s
        · rw [if_pos (decide_eq_true c1), tr2]
          by_cases c2 : vld hi s
          · rw [decide_eq_true c2, if_neg (by decide), if_pos (show vld lo s ∧ vld hi s from ⟨c1, c2⟩)]
          · rw [decide_eq_false c2, if_pos (by decide), if_neg (fun h : vld lo s ∧ vld hi s => c2 h.2)]
        · rw [if_neg (by rw [decide_eq_false c1]; decide), tr2, if_pos rfl, if_neg (fun h : vld lo s ∧ vld hi s => c1 h.1)]
    by_cases c1 : s < nl
    · rw [if_pos c1, tr, if_pos rfl, if_pos (Or.inl c1)]
    · rw [if_neg c1]
      by_cases c2 : s > 32
      · rw [if_pos c2, tr, if_pos rfl, if_pos (Or.inr (Or.inl c2))]
      · rw [if_neg c2, tr]
        by_cases c3 : lo > hi
        · rw [if_pos (decide_eq_true c3), if_pos (Or.inr (Or.inr c3))]
        · rw [if_neg (by rw [decide_eq_false c3]; decide), if_neg (show ¬ (s < nl ∨ 32 < s ∨ hi < lo) by omega)]
  · rw [if_neg (by rw [decide_eq_false hv]; decide), if_neg hv]
theorem looked_all {na nl s lo hi : Int} {k : Nat} (hb0 : 0 ≤ na) (hb1 : na < 4294967296) (hl0 : 0 ≤ lo) (hl1 : lo < 4294967296) (hh0 : 0 ≤ hi) (hh1 : hi < 4294967296) (hk : 40 ≤ k) :
    weftref10_looked.f k na nl s lo hi = some (faultF na nl s lo hi) := by
  obtain ⟨k, rfl⟩ : ∃ m, k = m + 2 := ⟨k - 2, by omega⟩
  have hal : ∀ a l : Int, 0 ≤ a → a < 4294967296 → weftref10_aligned.f (k + 1) a l l = some (decide (vld a l)) := fun a l h0 h1 => by
    rw [aligned_all h0 h1 (by omega)]; simp
  unfold weftref10_looked.f faultF
  rw [rvalid_all hb0 hb1 (by omega), Option.bind_some]
  by_cases hv : vld na nl
  · rw [if_pos (decide_eq_true hv), if_pos hv]
    have tr : ∀ b : Bool, weftref10_looked.j0 (k + 2) s lo hi b na nl = some (if b = true then 1 else if vld lo s ∧ vld hi s then (if ins na nl lo ∧ ins na nl hi then 0 else 101) else 100) := fun b => by
      simp only [weftref10_looked.j0]
      cases b with
      | true => rfl
      | false =>
        rw [if_neg (by decide), if_neg (by decide), hal _ _ hl0 hl1, hal _ _ hh0 hh1, Option.bind_some, Option.bind_some]
        have tr2 : ∀ b : Bool, weftref10_looked.j1 (k + 1) lo hi b na nl = some (if b = true then 100 else if ins na nl lo ∧ ins na nl hi then 0 else 101) := fun b => by
          simp only [weftref10_looked.j1]
          cases b with
          | true => rfl
          | false =>
            rw [if_neg (by decide), if_neg (by decide), rcontains_all hb0 hb1 hl0 hl1 (by omega), rcontains_all hb0 hb1 hh0 hh1 (by omega), Option.bind_some, Option.bind_some]
            by_cases c1 : ins na nl lo
            · rw [if_pos (decide_eq_true c1)]
              by_cases c2 : ins na nl hi
              · rw [if_pos (decide_eq_true c2), if_pos ⟨c1, c2⟩]
              · rw [if_neg (by rw [decide_eq_false c2]; decide), if_neg (fun h => c2 h.2)]
            · rw [if_neg (by rw [decide_eq_false c1]; decide), if_neg (fun h => c1 h.1)]
        by_cases c1 : vld lo s
        · rw [if_pos (decide_eq_true c1), tr2]
          by_cases c2 : vld hi s
          · rw [decide_eq_true c2, if_neg (by decide), if_pos (show vld lo s ∧ vld hi s from ⟨c1, c2⟩)]
          · rw [decide_eq_false c2, if_pos (by decide), if_neg (fun h : vld lo s ∧ vld hi s => c2 h.2)]
        · rw [if_neg (by rw [decide_eq_false c1]; decide), tr2, if_pos rfl, if_neg (fun h : vld lo s ∧ vld hi s => c1 h.1)]
    by_cases c1 : s < nl
    · rw [if_pos c1, tr, if_pos rfl, if_pos (Or.inl c1)]
    · rw [if_neg c1]
      by_cases c2 : s > 32
      · rw [if_pos c2, tr, if_pos rfl, if_pos (Or.inr (Or.inl c2))]
      · rw [if_neg c2, tr]
        by_cases c3 : lo > hi
        · rw [if_pos (decide_eq_true c3), if_pos (Or.inr (Or.inr c3))]
        · rw [if_neg (by rw [decide_eq_false c3]; decide), if_neg (show ¬ (s < nl ∨ 32 < s ∨ hi < lo) by omega)]
  · rw [if_neg (by rw [decide_eq_false hv]; decide), if_neg hv]
/-- what a pool may be made of -/
structure GoodP (na nl s lo hi : Int) : Prop where
  nl0 : 0 ≤ nl
  nls : nl ≤ s
  s32 : s ≤ 32
  lohi : lo ≤ hi
  dn : na % sizeF nl = 0
  dlo : lo % sizeF s = 0
  dhi : hi % sizeF s = 0
  lo0 : na ≤ lo
  hi1 : hi < na + sizeF nl
theorem faultF_ok {na nl s lo hi : Int} : faultF na nl s lo hi = 0 ↔ GoodP na nl s lo hi := by
  unfold faultF
  constructor
  · intro h
    by_cases hv : vld na nl
    · rw [if_pos hv] at h
      by_cases c1 : s < nl ∨ 32 < s ∨ hi < lo
      · rw [if_pos c1] at h; omega
      · rw [if_neg c1] at h
        by_cases c2 : vld lo s ∧ vld hi s
        · rw [if_pos c2] at h
          by_cases c3 : ins na nl lo ∧ ins na nl hi
          · exact ⟨hv.1, by omega, by omega, by omega, hv.2.2, c2.1.2.2, c2.2.2.2, c3.1.2.1, c3.2.2.2⟩
          · rw [if_neg c3] at h; omega
        · rw [if_neg c2] at h; omega
    · rw [if_neg hv] at h; omega
  · intro h
    have hv : vld na nl := ⟨h.nl0, by have := h.nls; have := h.s32; omega, h.dn⟩
    have hs : ∀ a : Int, a % sizeF s = 0 → vld a s := fun a ha => ⟨by have := h.nls; have := h.nl0; omega, h.s32, ha⟩
    rw [if_pos hv, if_neg (by have := h.nls; have := h.s32; have := h.lohi; omega), if_pos ⟨hs _ h.dlo, hs _ h.dhi⟩, if_pos ⟨⟨hv, h.lo0, by have := h.lohi; have := h.hi1; omega⟩, ⟨hv, by have := h.lohi; have := h.lo0; omega, h.hi1⟩⟩]
/-! numbers of subnets -/
theorem div_mul {a l : Int} (h : a % sizeF l = 0) : a / sizeF l * sizeF l = a := by
  have := Int.emod_add_mul_ediv a (sizeF l)
  rw [h, Int.zero_add, Int.mul_comm] at this; exact this
theorem mul_div {x l : Int} (h0 : 0 ≤ l) (h1 : l ≤ 32) : x * sizeF l / sizeF l = x := Int.mul_ediv_cancel x (by have := (sizeF_rng h0 h1).1; omega)
theorem mul_mod (x l : Int) : x * sizeF l % sizeF l = 0 := Int.mul_emod_left x _
theorem div_rng {a l : Int} (h0 : 0 ≤ l) (h1 : l ≤ 32) (ha0 : 0 ≤ a) (ha1 : a < 4294967296) : 0 ≤ a / sizeF l ∧ a / sizeF l < 4294967296 := by
  have hs := (sizeF_rng h0 h1).1
  have h2 := Int.ediv_nonneg ha0 (show 0 ≤ sizeF l by omega)
  refine ⟨h2, ?_⟩
  have := Int.ediv_le_self (a := a) (sizeF l) ha0
  omega
end Go.Proofs.Ytebnlhjakiipjaa.Pl

set_option linter.unusedVariables false
set_option linter.unusedSimpArgs false
namespace Go.Proofs.Ytebnlhjakiipjaa.Pl
open Go.RowKit Go.Maps Go.Proofs.YtebnlhjakiipjaaW.PrintWords Go.Proofs.YtebnlhjakiipjaaW.PrintMore Go.Proofs.YtebnlhjakiipjaaW.PrintLast Go.Proofs.Ytebnlhjakiipjaa.PPlf
theorem shr_size {a s : Int} (h0 : 0 ≤ s) (h1 : s ≤ 32) : a / 2 ^ (32 - s).toNat = a / sizeF s := rfl
set_option maxHeartbeats 4000000 in
set_option maxRecDepth 100000 in
theorem number28 (w : World) (b : Nat) (s a : Int) (hb : w.cell? ⟨b, 2, none⟩ = some (.int .i64 s)) (h0 : 0 ≤ s) (h1 : s ≤ 32) (ha0 : 0 ≤ a) (ha1 : a < 4294967296) :
    Calls Try.prog 28 #[.pointer (some ⟨b, 0, none⟩), .int .u32 a] w fun e w' => e = .returned (.int .i64 (a / sizeF s)) ∧ w = w' := by
  have hr := div_rng h0 h1 ha0 ha1
  go_enter Try.func28, Try.ntmps28
  go_wp2_with fail
  go_ret
  exact ⟨rfl, rfl⟩
theorem fits_sub {x s : Int} (h0 : 0 ≤ s) (h1 : s ≤ 32) (hx0 : 0 ≤ x) (hx1 : x * sizeF s < 4294967296) : x < 4294967296 := by
  have hs := (sizeF_rng h0 h1).1
  have := Int.mul_le_mul_of_nonneg_left hs hx0
  omega
set_option maxHeartbeats 4000000 in
set_option maxRecDepth 100000 in
theorem subnet41 (w : World) (b : Nat) (s x : Int) (hb : w.cell? ⟨b, 2, none⟩ = some (.int .i64 s)) (h0 : 0 ≤ s) (h1 : s ≤ 32) (hx0 : 0 ≤ x) (hx1 : x * sizeF s < 4294967296) :
    Calls Try.prog 41 #[.pointer (some ⟨b, 0, none⟩), .int .i64 x] w fun e w' => e = .returned (.agg #[.int .u32 (x * sizeF s), .int .i64 s]) ∧ Below w.heap.size w w' := by
  have hxl := fits_sub h0 h1 hx0 hx1
  have hlt : b < w.heap.size := by
    rcases Nat.lt_or_ge b w.heap.size with h | h
    · exact h
    · simp [World.cell?, Array.getElem?_eq_none h] at hb
  have hb2 : (w.alloc (Obj.cells #[Value.int IntKind.u32 0, Value.int IntKind.i64 0] 27)).cell? ⟨b, 2, none⟩ = some (.int .i64 s) := by
    have hB : Below w.heap.size w (w.alloc (Obj.cells #[Value.int IntKind.u32 0, Value.int IntKind.i64 0] 27)) := below_alloc (Below.refl _ _) _
    exact (hB.cell (p := ⟨b, 2, none⟩) hlt).trans hb
  go_enter Try.func41, Try.ntmps41
  go_wp2_with fail
  go_region
  go_wp2_with fail
  refine bodyPost_ret (v := .agg #[.int .u32 (x * sizeF s), .int .i64 s]) ?_ rfl ⟨rfl, ?_⟩
  · simp [results, Try.results41, go_sem]
    show wrap64 (x * sizeF s) % 4294967296 = x * sizeF s
    have hn : 0 ≤ x * sizeF s := Int.mul_nonneg hx0 (by have := (sizeF_rng h0 h1).1; omega)
    rw [w64 hn (by omega), Int.emod_eq_of_lt hn hx1]
  · exact below_drew1 (below_alloc (Below.refl _ _) _)
/-- what the numbers of a pool are good for -/
structure Pm.Ok (M : Pm) : Prop where
  s0 : 0 ≤ M.s
  s1 : M.s ≤ 32
  na0 : 0 ≤ M.na
  na1 : M.na < 4294967296
/-- a subnet of the pool's length -/
def sub (M : Pm) (a l : Int) : Prop := l = M.s ∧ vld a l
instance (M : Pm) (a l : Int) : Decidable (sub M a l) := by unfold sub; infer_instance
/-- the pool's cells and the subnet's box, as one -/
abbrev SC (w0 : World) (b : Nat) (vk : Value) (bm : Nat) (vr : Value) (M : Pm) (R : List Run) (p : Nat) (a l : Int) (w : World) : Prop :=
  w.cell? ⟨b, 0, none⟩ = some (.int .u32 M.na) ∧ w.cell? ⟨b, 1, none⟩ = some (.int .i64 M.nl) ∧ w.cell? ⟨b, 2, none⟩ = some (.int .i64 M.s) ∧ w.cell? ⟨b, 3, none⟩ = some (.int .i64 M.mn) ∧ w.cell? ⟨b, 4, none⟩ = some (.int .i64 M.mx) ∧ w.cell? ⟨b, 6, none⟩ = some (.map (some bm)) ∧
  w.cell? ⟨p, 0, none⟩ = some (.int .u32 a) ∧ w.cell? ⟨p, 1, none⟩ = some (.int .i64 l) ∧ PlS w b vk bm vr M R ∧ p < w.heap.size ∧ Below w0.heap.size w0 w
section
variable {w0 : World} {b : Nat} {vk : Value} {bm : Nat} {vr : Value} {M : Pm} {R : List Run} {p : Nat} {a l : Int} {w w' : World}
theorem SC.pl (h : SC w0 b vk bm vr M R p a l w) : PlS w b vk bm vr M R := h.2.2.2.2.2.2.2.2.1
theorem SC.bel (h : SC w0 b vk bm vr M R p a l w) : Below w0.heap.size w0 w := h.2.2.2.2.2.2.2.2.2.2
theorem SC.mk_ (h : PlS w b vk bm vr M R) (h0 : w.cell? ⟨p, 0, none⟩ = some (.int .u32 a)) (h1 : w.cell? ⟨p, 1, none⟩ = some (.int .i64 l)) (hp : p < w.heap.size) (hb : Below w0.heap.size w0 w) : SC w0 b vk bm vr M R p a l w :=
  ⟨blk_cell h.blk 0, blk_cell h.blk 1, blk_cell h.blk 2, blk_cell h.blk 3, blk_cell h.blk 4, blk_cell h.blk 6, h0, h1, h, hp, hb⟩
theorem SC.keep (hb : Below w.heap.size w w') (h : SC w0 b vk bm vr M R p a l w) : SC w0 b vk bm vr M R p a l w' :=
  SC.mk_ (h.pl.below hb) ((hb.cell (p := ⟨p, 0, none⟩) h.2.2.2.2.2.2.2.2.2.1).trans h.2.2.2.2.2.2.1) ((hb.cell (p := ⟨p, 1, none⟩) h.2.2.2.2.2.2.2.2.2.1).trans h.2.2.2.2.2.2.2.1) (Nat.lt_of_lt_of_le h.2.2.2.2.2.2.2.2.2.1 hb.size) (below_step h.bel hb)
theorem SC.drew (h : SC w0 b vk bm vr M R p a l w) : SC w0 b vk bm vr M R p a l w.drew := h.keep ((Below.refl _ _).drew)
end
set_option maxHeartbeats 4000000 in
set_option maxRecDepth 100000 in
/-- a subnet of another length, or none at all -/
theorem claim_align (w : World) (b : Nat) (vk : Value) (bm : Nat) (vr : Value) (M : Pm) (R : List Run) (a l : Int) (hS : PlS w b vk bm vr M R) (ha0 : 0 ≤ a) (ha1 : a < 4294967296) (hn : ¬ sub M a l) :
    Calls Try.prog 15 #[.pointer (some ⟨b, 0, none⟩), .agg #[.int .u32 a, .int .i64 l]] w fun e w' => e = .returned (.int .i64 100) ∧ Below w.heap.size w w' := by
  have hB1 := below_alloc (Below.refl w.heap.size w) (.cells #[.int .u32 a, .int .i64 l] 27)
  have kb := heap_alloc_new w (.cells #[.int .u32 a, .int .i64 l] 27)
  have hSC := SC.mk_ (w0 := w) (hS.below hB1) (blk_cell kb 0) (blk_cell kb 1) (by rw [World.size_alloc]; omega) hB1
  have HSC := Aside0.mk hSC
  have hV := Aside0.mk (fun w => addr_Valid.calls 1 a l _ w (valid_all ha0 ha1 (Nat.le_refl 1)))
  have HN := Aside0.mk hn
  clear hSC kb hB1 hS hn
  by_cases hl : l = M.s
  · have hlb : (l != M.s) = false := by simp [hl]
    have hv : decide (vld a l) = false := decide_eq_false (fun h => HN.out ⟨hl, h⟩)
    rw [hv] at hV
    clear hv hl
    go_enter Try.func15, Try.ntmps15
    go_wp2_with fail
    go_region_held3 (SC w b vk bm vr M R w.heap.size a l)
      (first | assumption | (exact SC.keep hb4 (by assumption)) | (exact SC.drew (by assumption)) | (exact SC.drew HSC.out) | (exact HSC.out))
      ((go_at_call 29; refine (hV.out _).mono ?_; rintro e_ w4 ⟨rfl, hb4⟩))
    go_wp2_with fail
    go_ret
    exact ⟨rfl, SC.bel (w0 := w) (by assumption)⟩
  · have hlb : (l != M.s) = true := by simpa using hl
    have k2 := HSC.out.2.2.1
    have kp := HSC.out.2.2.2.2.2.2.2.1
    clear hl
    go_enter Try.func15, Try.ntmps15
    go_wp2_with fail
    go_quiet (fail)
    go_wp2_with fail
    go_ret
    exact ⟨rfl, pw_below_drewN HSC.out.bel _⟩
end Go.Proofs.Ytebnlhjakiipjaa.Pl

set_option linter.unusedVariables false
set_option linter.unusedSimpArgs false
namespace Go.Proofs.Ytebnlhjakiipjaa.Pl
open Go.RowKit Go.Maps Go.WideMaps Go.MapKept Go.Proofs.YtebnlhjakiipjaaW.PrintWords Go.Proofs.YtebnlhjakiipjaaW.PrintMore Go.Proofs.YtebnlhjakiipjaaW.PrintLast Go.Proofs.Ytebnlhjakiipjaa.PPlf
instance (R : List Run) (x : Int) : Decidable (InR R x) := by unfold InR; infer_instance
theorem lawK : Keyed Try.prog 2 := int_keyed Try.underlying2
theorem zero3 (w : World) : (zeroValue 3).run Try.prog w = .ok (.int .i64 0) w := by kernel_rfl
theorem wf64 {a : Int} (h0 : 0 ≤ a) (h1 : a < 4294967296) : (Lit.int .i64 a).wf = true := by
  simp [Lit.wf, IntKind.min, IntKind.max, IntKind.bits, IntKind.signed]; omega
set_option maxRecDepth 100000 in
theorem KM.look {w : World} {b n : Nat} {f : Int → Option Int} (h : KM w b f n) {k : Int} (hk : (Lit.int .i64 k).wf = true) : (Instr.lookup 62 (.map (some b)) (.int .i64 k) false).run Try.prog w = .ok (.int .i64 ((f k).getD 0)) w := by
  obtain ⟨D, hown, hsz, hD⟩ := h
  obtain ⟨c, hrun, hat, hwc⟩ := hown.lookup_int lawK Try.underlying62 Try.underlying3 (zero3 w) (keyOf_int_mk Try.underlying2 hk)
  have hd := hD k hk
  cases hf : f k with
  | none =>
    rw [Maps.atKey_of_not_has (hd.1 hf)] at hat
    have e : 0 = c := by injection hat with e1; injection e1
    rw [hrun, ← e]; rfl
  | some r =>
    obtain ⟨h1, h2⟩ := hd.2 r hf
    rw [h2] at hat
    have e : r = c := by injection hat with e1; injection e1
    rw [hrun, ← e]; rfl
/-- the kept ones are the map's -/
def Pm.Kept (M : Pm) : Prop := ∀ x, M.isK x = if x ∈ M.kept then some 1 else none
/-- with the map's answer -/
abbrev SL (w0 : World) (b : Nat) (vk : Value) (bm : Nat) (vr : Value) (M : Pm) (R : List Run) (p : Nat) (a l n t : Int) (w : World) : Prop :=
  w.cell? ⟨b, 0, none⟩ = some (.int .u32 M.na) ∧ w.cell? ⟨b, 1, none⟩ = some (.int .i64 M.nl) ∧ w.cell? ⟨b, 2, none⟩ = some (.int .i64 M.s) ∧ w.cell? ⟨b, 3, none⟩ = some (.int .i64 M.mn) ∧ w.cell? ⟨b, 4, none⟩ = some (.int .i64 M.mx) ∧ w.cell? ⟨b, 6, none⟩ = some (.map (some bm)) ∧
  w.cell? ⟨p, 0, none⟩ = some (.int .u32 a) ∧ w.cell? ⟨p, 1, none⟩ = some (.int .i64 l) ∧ (Instr.lookup 62 (.map (some bm)) (.int .i64 n) false).run Try.prog w = .ok (.int .i64 t) w ∧ SC w0 b vk bm vr M R p a l w
section
variable {w0 : World} {b : Nat} {vk : Value} {bm : Nat} {vr : Value} {M : Pm} {R : List Run} {p : Nat} {a l n t : Int} {w w' : World}
theorem SL.sc (h : SL w0 b vk bm vr M R p a l n t w) : SC w0 b vk bm vr M R p a l w := h.2.2.2.2.2.2.2.2.2
theorem SL.mk_ (h : SC w0 b vk bm vr M R p a l w) (hn : (Lit.int .i64 n).wf = true) (ht : (M.isK n).getD 0 = t) : SL w0 b vk bm vr M R p a l n t w :=
  ⟨h.1, h.2.1, h.2.2.1, h.2.2.2.1, h.2.2.2.2.1, h.2.2.2.2.2.1, h.2.2.2.2.2.2.1, h.2.2.2.2.2.2.2.1, by rw [← ht]; exact h.pl.mp.look hn, h⟩
end
/-- a number out of the row, and not kept -/
def away (M : Pm) (n : Int) : Prop := (n < M.mn ∨ M.mx < n) ∧ n ∉ M.kept
instance (M : Pm) (n : Int) : Decidable (away M n) := by unfold away; infer_instance
set_option maxHeartbeats 8000000 in
set_option maxRecDepth 100000 in
theorem claim_out (w : World) (b : Nat) (vk : Value) (bm : Nat) (vr : Value) (M : Pm) (R : List Run) (a l : Int) (hok : M.Ok) (hK : M.Kept) (hS : PlS w b vk bm vr M R) (ha0 : 0 ≤ a) (ha1 : a < 4294967296) (hn : sub M a l) (ho : ¬ ins M.na M.nl a ∨ away M (a / sizeF M.s)) :
    Calls Try.prog 15 #[.pointer (some ⟨b, 0, none⟩), .agg #[.int .u32 a, .int .i64 l]] w fun e w' => e = .returned (.int .i64 101) ∧ Below w.heap.size w w' := by
  have hB1 := below_alloc (Below.refl w.heap.size w) (.cells #[.int .u32 a, .int .i64 l] 27)
  have kb := heap_alloc_new w (.cells #[.int .u32 a, .int .i64 l] 27)
  have hSC := SC.mk_ (w0 := w) (hS.below hB1) (blk_cell kb 0) (blk_cell kb 1) (by rw [World.size_alloc]; omega) hB1
  have HSC := Aside0.mk hSC
  have hV := Aside0.mk (fun w => addr_Valid.calls 1 a l _ w (valid_all ha0 ha1 (Nat.le_refl 1)))
  have hC := Aside0.mk (fun w => addr_Contains.calls 1 M.na M.nl a _ w (contains_all hok.na0 hok.na1 ha0 ha1 (Nat.le_refl 1)))
  have hN := Aside0.mk (fun w hb => number28 w b M.s a hb hok.s0 hok.s1 ha0 ha1)
  obtain ⟨hl, hv⟩ := hn
  have hlb : (l != M.s) = false := by simp [hl]
  rw [decide_eq_true hv] at hV
  have hr := div_rng hok.s0 hok.s1 ha0 ha1
  obtain ⟨n, hnn⟩ : ∃ n, n = a / sizeF M.s := ⟨_, rfl⟩
  rw [← hnn] at hr ho hN
  obtain ⟨t, ht⟩ : ∃ t, (M.isK n).getD 0 = t := ⟨_, rfl⟩
  have hSLk := Aside0.mk (fun (w1 : World) (h : SC w b vk bm vr M R w.heap.size a l w1) => SL.mk_ h (wf64 hr.1 hr.2) ht)
  obtain ⟨c, hc⟩ : ∃ c : Bool, decide (ins M.na M.nl a) = c := ⟨_, rfl⟩
  rw [hc] at hC
  have HT : Aside0 (n ∉ M.kept → t = 0) := ⟨fun h => by rw [← ht, hK n, if_neg h]; rfl⟩
  have HO := Aside0.mk ho
  have HC := Aside0.mk hc
  clear hSC kb hB1 hS hnn ho ht hl hv hc hK hok
  go_enter Try.func15, Try.ntmps15
  go_wp2_with fail
  go_region_held3 (SC w b vk bm vr M R w.heap.size a l)
      (first | assumption | (exact SC.keep hb4 (by assumption)) | (exact SC.drew (by assumption)) | (exact SC.drew HSC.out) | (exact HSC.out))
      ((go_at_call 29; refine (hV.out _).mono ?_; rintro e_ w4 ⟨rfl, hb4⟩))
  have hS1 := Aside0.mk (by assumption : SC w b vk bm vr M R w.heap.size a l w4)
  have k2 := hS1.out.2.2.1
  have kp := hS1.out.2.2.2.2.2.2.1
  go_wp2_with fail
  refine (hN.out _ k2).mono ?_
  rintro e_ w5 ⟨rfl, rfl⟩
  clear k2 kp hV hlb HSC
  cases c with
  | false =>
    go_wp2_with fail
    have hL4 := hSLk.out _ (SC.drew hS1.out)
    refine start_ (n := 33) (S := fun w' => w'.cell? ⟨b, 0, none⟩ = some (.int .u32 M.na) ∧ w'.cell? ⟨b, 1, none⟩ = some (.int .i64 M.nl) ∧ w'.cell? ⟨b, 2, none⟩ = some (.int .i64 M.s) ∧ w'.cell? ⟨b, 3, none⟩ = some (.int .i64 M.mn) ∧ w'.cell? ⟨b, 4, none⟩ = some (.int .i64 M.mx) ∧ w'.cell? ⟨b, 6, none⟩ = some (.map (some bm)) ∧ w'.cell? ⟨w.heap.size, 0, none⟩ = some (.int .u32 a) ∧ w'.cell? ⟨w.heap.size, 1, none⟩ = some (.int .i64 l) ∧ (Instr.lookup 62 (.map (some bm)) (.int .i64 n) false).run Try.prog w' = .ok (.int .i64 t) w' ∧ SC w b vk bm vr M R w.heap.size a l w') (ds := []) #[false, false, false, false, false, false, false, false, false, false, false, false, false, false, false, false, false, false, false, false, false, false, false, false, false, false, false, false, false, false, false, false, false] (by kernel_rfl) rfl rfl ⟨(hL4).1, (hL4).2.1, (hL4).2.2.1, (hL4).2.2.2.1, (hL4).2.2.2.2.1, (hL4).2.2.2.2.2.1, (hL4).2.2.2.2.2.2.1, (hL4).2.2.2.2.2.2.2.1, (hL4).2.2.2.2.2.2.2.2.1, (hL4).2.2.2.2.2.2.2.2.2⟩ (fun hHeld => ?_)
    refine pure_ (i := 0) (N := some 24) (v := ?_) (a' := ?_) #[true, false, false, false, false, false, false, false, false, false, false, false, false, false, false, false, false, false, false, false, false, false, false, false, false, false, false, false, false, false, false, false, false] rfl rfl (by kernel_rfl) (fun _ _ _ h => h) (Or.inl ⟨by rfl, ?_⟩) ?_ ?_
    rotate_left
    · intro w'
      go_simp
      with_reducible rfl
    rotate_left
    · simp only [Act.put, List.setIfInBounds_toArray, List.set_cons_zero, List.set_cons_succ, i64_w, i32_w]
      rfl
    refine pure_ (i := 1) (N := some 25) (v := ?_) (a' := ?_) #[true, true, false, false, false, false, false, false, false, false, false, false, false, false, false, false, false, false, false, false, false, false, false, false, false, false, false, false, false, false, false, false, false] rfl rfl (by kernel_rfl) (fun _ _ _ h => h) (Or.inl ⟨by rfl, ?_⟩) ?_ ?_
    rotate_left
    · intro w'
      go_simp
      with_reducible rfl
    rotate_left
    · simp only [Act.put, List.setIfInBounds_toArray, List.set_cons_zero, List.set_cons_succ, i64_w, i32_w]
      rfl
    refine pure_ (i := 2) (N := some 26) (v := ?_) (a' := ?_) #[true, true, true, false, false, false, false, false, false, false, false, false, false, false, false, false, false, false, false, false, false, false, false, false, false, false, false, false, false, false, false, false, false] rfl rfl (by kernel_rfl) (fun _ _ _ h => h) (Or.inl ⟨by rfl, ?_⟩) ?_ ?_
    rotate_left
    · intro w'
      go_simp
      with_reducible rfl
    rotate_left
    · simp only [Act.put, List.setIfInBounds_toArray, List.set_cons_zero, List.set_cons_succ, i64_w, i32_w]
      rfl
    refine pure_ (i := 4) (N := some 28) (v := ?_) (a' := ?_) #[true, true, true, false, true, false, false, false, false, false, false, false, false, false, false, false, false, false, false, false, false, false, false, false, false, false, false, false, false, false, false, false, false] rfl rfl (by kernel_rfl) (fun _ _ _ h => h) (Or.inl ⟨by rfl, ?_⟩) ?_ ?_
    rotate_left
    · intro w'
      go_simp
      with_reducible rfl
    rotate_left
    · simp only [Act.put, List.setIfInBounds_toArray, List.set_cons_zero, List.set_cons_succ, i64_w, i32_w]
      rfl
    refine take_ (i := 3) (N := some 27) (v := ?_) (a' := ?_) #[true, true, true, true, true, false, false, false, false, false, false, false, false, false, false, false, false, false, false, false, false, false, false, false, false, false, false, false, false, false, false, false, false] rfl rfl (by kernel_rfl) (fun _ _ _ h => h) (Or.inl ⟨by rfl, ?_⟩) hHeld ?_ ?_
    rotate_left
    · rintro w' ⟨s0, s1, s2, s3, s4, s5, s6, s7, s8, s9⟩
      go_simp
      with_reducible rfl
    rotate_left
    · simp only [Act.put, List.setIfInBounds_toArray, List.set_cons_zero, List.set_cons_succ, i64_w, i32_w]
      rfl
    refine take_ (i := 5) (N := some 29) (v := ?_) (a' := ?_) #[true, true, true, true, true, true, false, false, false, false, false, false, false, false, false, false, false, false, false, false, false, false, false, false, false, false, false, false, false, false, false, false, false] rfl rfl (by kernel_rfl) (fun _ _ _ h => h) (Or.inl ⟨by rfl, ?_⟩) hHeld ?_ ?_
    rotate_left
    · rintro w' ⟨s0, s1, s2, s3, s4, s5, s6, s7, s8, s9⟩
      go_simp
      with_reducible rfl
    rotate_left
    · simp only [Act.put, List.setIfInBounds_toArray, List.set_cons_zero, List.set_cons_succ, i64_w, i32_w]
      rfl
    refine one_ (i := 6) (N := some 30) #[true, true, true, true, true, true, true, false, false, false, false, false, false, false, false, false, false, false, false, false, false, false, false, false, false, false, false, false, false, false, false, false, false] rfl rfl (by kernel_rfl) (by decide) (fun K hK => ?_)
    refine goes_ Try.func30 (by kernel_rfl) rfl #[.agg #[.int .u32 M.na, .int .i64 M.nl], .int .u32 a] (by rfl) rfl rfl (by simp only [List.map_toArray, List.map_cons, List.map_nil]; rfl) ?_
    with_reducible refine (hC.out _).mono ?_
    rintro e_ w6 ⟨rfl, hb6⟩
    refine ⟨_, rfl, ?_⟩
    have hL6 := hSLk.out _ (SC.keep hb6 hL4.sc)
    refine hK.out _ _ ⟨(hL6).1, (hL6).2.1, (hL6).2.2.1, (hL6).2.2.2.1, (hL6).2.2.2.2.1, (hL6).2.2.2.2.2.1, (hL6).2.2.2.2.2.2.1, (hL6).2.2.2.2.2.2.2.1, (hL6).2.2.2.2.2.2.2.2.1, (hL6).2.2.2.2.2.2.2.2.2⟩ (fun hHeld => ?_)
    clear hK K
    refine norm_ (a' := ?_) ?_ ?_
    rotate_left
    · show Act.put _ (some 30) _ = _
      simp only [Act.put, List.setIfInBounds_toArray, List.set_cons_zero, List.set_cons_succ, i64_w, i32_w]
      rfl
    refine pure_ (i := 7) (N := some 31) (v := ?_) (a' := ?_) #[true, true, true, true, true, true, true, true, false, false, false, false, false, false, false, false, false, false, false, false, false, false, false, false, false, false, false, false, false, false, false, false, false] rfl rfl (by kernel_rfl) (fun _ _ _ h => h) (Or.inl ⟨by rfl, ?_⟩) ?_ ?_
    rotate_left
    · intro w'
      go_simp
      with_reducible rfl
    rotate_left
    · simp only [Act.put, List.setIfInBounds_toArray, List.set_cons_zero, List.set_cons_succ, i64_w, i32_w]
      rfl
    refine pure_ (i := 8) (N := some 32) (v := ?_) (a' := ?_) #[true, true, true, true, true, true, true, true, true, false, false, false, false, false, false, false, false, false, false, false, false, false, false, false, false, false, false, false, false, false, false, false, false] rfl rfl (by kernel_rfl) (fun _ _ _ h => h) (Or.inl ⟨by rfl, ?_⟩) ?_ ?_
    rotate_left
    · intro w'
      go_simp
      with_reducible rfl
    rotate_left
    · simp only [Act.put, List.setIfInBounds_toArray, List.set_cons_zero, List.set_cons_succ, i64_w, i32_w]
      rfl
    refine pure_ (i := 9) (N := some 33) (v := undef) (a' := ?_) #[true, true, true, true, true, true, true, true, true, true, false, false, false, false, false, false, false, false, false, false, false, false, false, false, false, false, false, false, false, false, false, false, false] rfl rfl (by kernel_rfl) (fun _ _ _ h => h) (Or.inr ⟨by rfl, rfl⟩) ?_ ?_
    rotate_left
    · simp only [Act.put, List.setIfInBounds_toArray, List.set_cons_zero, List.set_cons_succ, i64_w, i32_w]
      rfl
    refine pure_ (i := 10) (N := some 34) (v := undef) (a' := ?_) #[true, true, true, true, true, true, true, true, true, true, true, false, false, false, false, false, false, false, false, false, false, false, false, false, false, false, false, false, false, false, false, false, false] rfl rfl (by kernel_rfl) (fun _ _ _ h => h) (Or.inr ⟨by rfl, rfl⟩) ?_ ?_
    rotate_left
    · simp only [Act.put, List.setIfInBounds_toArray, List.set_cons_zero, List.set_cons_succ, i64_w, i32_w]
      rfl
    refine pure_ (i := 11) (N := some 35) (v := undef) (a' := ?_) #[true, true, true, true, true, true, true, true, true, true, true, true, false, false, false, false, false, false, false, false, false, false, false, false, false, false, false, false, false, false, false, false, false] rfl rfl (by kernel_rfl) (fun _ _ _ h => h) (Or.inr ⟨by rfl, rfl⟩) ?_ ?_
    rotate_left
    · simp only [Act.put, List.setIfInBounds_toArray, List.set_cons_zero, List.set_cons_succ, i64_w, i32_w]
      rfl
    refine pure_ (i := 12) (N := some 36) (v := undef) (a' := ?_) #[true, true, true, true, true, true, true, true, true, true, true, true, true, false, false, false, false, false, false, false, false, false, false, false, false, false, false, false, false, false, false, false, false] rfl rfl (by kernel_rfl) (fun _ _ _ h => h) (Or.inr ⟨by rfl, rfl⟩) ?_ ?_
    rotate_left
    · simp only [Act.put, List.setIfInBounds_toArray, List.set_cons_zero, List.set_cons_succ, i64_w, i32_w]
      rfl
    refine pure_ (i := 13) (N := some 37) (v := undef) (a' := ?_) #[true, true, true, true, true, true, true, true, true, true, true, true, true, true, false, false, false, false, false, false, false, false, false, false, false, false, false, false, false, false, false, false, false] rfl rfl (by kernel_rfl) (fun _ _ _ h => h) (Or.inr ⟨by rfl, rfl⟩) ?_ ?_
    rotate_left
    · simp only [Act.put, List.setIfInBounds_toArray, List.set_cons_zero, List.set_cons_succ, i64_w, i32_w]
      rfl
    refine pure_ (i := 14) (N := some 38) (v := undef) (a' := ?_) #[true, true, true, true, true, true, true, true, true, true, true, true, true, true, true, false, false, false, false, false, false, false, false, false, false, false, false, false, false, false, false, false, false] rfl rfl (by kernel_rfl) (fun _ _ _ h => h) (Or.inr ⟨by rfl, rfl⟩) ?_ ?_
    rotate_left
    · simp only [Act.put, List.setIfInBounds_toArray, List.set_cons_zero, List.set_cons_succ, i64_w, i32_w]
      rfl
    refine pure_ (i := 15) (N := some 39) (v := undef) (a' := ?_) #[true, true, true, true, true, true, true, true, true, true, true, true, true, true, true, true, false, false, false, false, false, false, false, false, false, false, false, false, false, false, false, false, false] rfl rfl (by kernel_rfl) (fun _ _ _ h => h) (Or.inr ⟨by rfl, rfl⟩) ?_ ?_
    rotate_left
    · simp only [Act.put, List.setIfInBounds_toArray, List.set_cons_zero, List.set_cons_succ, i64_w, i32_w]
      rfl
    refine pure_ (i := 16) (N := some 40) (v := undef) (a' := ?_) #[true, true, true, true, true, true, true, true, true, true, true, true, true, true, true, true, true, false, false, false, false, false, false, false, false, false, false, false, false, false, false, false, false] rfl rfl (by kernel_rfl) (fun _ _ _ h => h) (Or.inr ⟨by rfl, rfl⟩) ?_ ?_
    rotate_left
    · simp only [Act.put, List.setIfInBounds_toArray, List.set_cons_zero, List.set_cons_succ, i64_w, i32_w]
      rfl
    refine pure_ (i := 17) (N := some 41) (v := undef) (a' := ?_) #[true, true, true, true, true, true, true, true, true, true, true, true, true, true, true, true, true, true, false, false, false, false, false, false, false, false, false, false, false, false, false, false, false] rfl rfl (by kernel_rfl) (fun _ _ _ h => h) (Or.inr ⟨by rfl, rfl⟩) ?_ ?_
    rotate_left
    · simp only [Act.put, List.setIfInBounds_toArray, List.set_cons_zero, List.set_cons_succ, i64_w, i32_w]
      rfl
    refine pure_ (i := 18) (N := some 42) (v := undef) (a' := ?_) #[true, true, true, true, true, true, true, true, true, true, true, true, true, true, true, true, true, true, true, false, false, false, false, false, false, false, false, false, false, false, false, false, false] rfl rfl (by kernel_rfl) (fun _ _ _ h => h) (Or.inr ⟨by rfl, rfl⟩) ?_ ?_
    rotate_left
    · simp only [Act.put, List.setIfInBounds_toArray, List.set_cons_zero, List.set_cons_succ, i64_w, i32_w]
      rfl
    refine pure_ (i := 19) (N := some 43) (v := undef) (a' := ?_) #[true, true, true, true, true, true, true, true, true, true, true, true, true, true, true, true, true, true, true, true, false, false, false, false, false, false, false, false, false, false, false, false, false] rfl rfl (by kernel_rfl) (fun _ _ _ h => h) (Or.inr ⟨by rfl, rfl⟩) ?_ ?_
    rotate_left
    · simp only [Act.put, List.setIfInBounds_toArray, List.set_cons_zero, List.set_cons_succ, i64_w, i32_w]
      rfl
    refine pure_ (i := 20) (N := some 44) (v := undef) (a' := ?_) #[true, true, true, true, true, true, true, true, true, true, true, true, true, true, true, true, true, true, true, true, true, false, false, false, false, false, false, false, false, false, false, false, false] rfl rfl (by kernel_rfl) (fun _ _ _ h => h) (Or.inr ⟨by rfl, rfl⟩) ?_ ?_
    rotate_left
    · simp only [Act.put, List.setIfInBounds_toArray, List.set_cons_zero, List.set_cons_succ, i64_w, i32_w]
      rfl
    refine pure_ (i := 21) (N := some 45) (v := undef) (a' := ?_) #[true, true, true, true, true, true, true, true, true, true, true, true, true, true, true, true, true, true, true, true, true, true, false, false, false, false, false, false, false, false, false, false, false] rfl rfl (by kernel_rfl) (fun _ _ _ h => h) (Or.inr ⟨by rfl, rfl⟩) ?_ ?_
    rotate_left
    · simp only [Act.put, List.setIfInBounds_toArray, List.set_cons_zero, List.set_cons_succ, i64_w, i32_w]
      rfl
    refine pure_ (i := 22) (N := some 46) (v := undef) (a' := ?_) #[true, true, true, true, true, true, true, true, true, true, true, true, true, true, true, true, true, true, true, true, true, true, true, false, false, false, false, false, false, false, false, false, false] rfl rfl (by kernel_rfl) (fun _ _ _ h => h) (Or.inr ⟨by rfl, rfl⟩) ?_ ?_
    rotate_left
    · simp only [Act.put, List.setIfInBounds_toArray, List.set_cons_zero, List.set_cons_succ, i64_w, i32_w]
      rfl
    refine pure_ (i := 23) (N := some 47) (v := undef) (a' := ?_) #[true, true, true, true, true, true, true, true, true, true, true, true, true, true, true, true, true, true, true, true, true, true, true, true, false, false, false, false, false, false, false, false, false] rfl rfl (by kernel_rfl) (fun _ _ _ h => h) (Or.inr ⟨by rfl, rfl⟩) ?_ ?_
    rotate_left
    · simp only [Act.put, List.setIfInBounds_toArray, List.set_cons_zero, List.set_cons_succ, i64_w, i32_w]
      rfl
    refine pure_ (i := 24) (N := some 48) (v := undef) (a' := ?_) #[true, true, true, true, true, true, true, true, true, true, true, true, true, true, true, true, true, true, true, true, true, true, true, true, true, false, false, false, false, false, false, false, false] rfl rfl (by kernel_rfl) (fun _ _ _ h => h) (Or.inr ⟨by rfl, rfl⟩) ?_ ?_
    rotate_left
    · simp only [Act.put, List.setIfInBounds_toArray, List.set_cons_zero, List.set_cons_succ, i64_w, i32_w]
      rfl
    refine pure_ (i := 25) (N := some 49) (v := undef) (a' := ?_) #[true, true, true, true, true, true, true, true, true, true, true, true, true, true, true, true, true, true, true, true, true, true, true, true, true, true, false, false, false, false, false, false, false] rfl rfl (by kernel_rfl) (fun _ _ _ h => h) (Or.inr ⟨by rfl, rfl⟩) ?_ ?_
    rotate_left
    · simp only [Act.put, List.setIfInBounds_toArray, List.set_cons_zero, List.set_cons_succ, i64_w, i32_w]
      rfl
    refine pure_ (i := 26) (N := some 50) (v := undef) (a' := ?_) #[true, true, true, true, true, true, true, true, true, true, true, true, true, true, true, true, true, true, true, true, true, true, true, true, true, true, true, false, false, false, false, false, false] rfl rfl (by kernel_rfl) (fun _ _ _ h => h) (Or.inr ⟨by rfl, rfl⟩) ?_ ?_
    rotate_left
    · simp only [Act.put, List.setIfInBounds_toArray, List.set_cons_zero, List.set_cons_succ, i64_w, i32_w]
      rfl
    refine pure_ (i := 27) (N := some 51) (v := undef) (a' := ?_) #[true, true, true, true, true, true, true, true, true, true, true, true, true, true, true, true, true, true, true, true, true, true, true, true, true, true, true, true, false, false, false, false, false] rfl rfl (by kernel_rfl) (fun _ _ _ h => h) (Or.inr ⟨by rfl, rfl⟩) ?_ ?_
    rotate_left
    · simp only [Act.put, List.setIfInBounds_toArray, List.set_cons_zero, List.set_cons_succ, i64_w, i32_w]
      rfl
    refine pure_ (i := 28) (N := some 52) (v := undef) (a' := ?_) #[true, true, true, true, true, true, true, true, true, true, true, true, true, true, true, true, true, true, true, true, true, true, true, true, true, true, true, true, true, false, false, false, false] rfl rfl (by kernel_rfl) (fun _ _ _ h => h) (Or.inr ⟨by rfl, rfl⟩) ?_ ?_
    rotate_left
    · simp only [Act.put, List.setIfInBounds_toArray, List.set_cons_zero, List.set_cons_succ, i64_w, i32_w]
      rfl
    refine pure_ (i := 29) (N := some 53) (v := undef) (a' := ?_) #[true, true, true, true, true, true, true, true, true, true, true, true, true, true, true, true, true, true, true, true, true, true, true, true, true, true, true, true, true, true, false, false, false] rfl rfl (by kernel_rfl) (fun _ _ _ h => h) (Or.inr ⟨by rfl, rfl⟩) ?_ ?_
    rotate_left
    · simp only [Act.put, List.setIfInBounds_toArray, List.set_cons_zero, List.set_cons_succ, i64_w, i32_w]
      rfl
    refine pure_ (i := 30) (N := some 54) (v := undef) (a' := ?_) #[true, true, true, true, true, true, true, true, true, true, true, true, true, true, true, true, true, true, true, true, true, true, true, true, true, true, true, true, true, true, true, false, false] rfl rfl (by kernel_rfl) (fun _ _ _ h => h) (Or.inr ⟨by rfl, rfl⟩) ?_ ?_
    rotate_left
    · simp only [Act.put, List.setIfInBounds_toArray, List.set_cons_zero, List.set_cons_succ, i64_w, i32_w]
      rfl
    refine pure_ (i := 31) (N := some 55) (v := undef) (a' := ?_) #[true, true, true, true, true, true, true, true, true, true, true, true, true, true, true, true, true, true, true, true, true, true, true, true, true, true, true, true, true, true, true, true, false] rfl rfl (by kernel_rfl) (fun _ _ _ h => h) (Or.inr ⟨by rfl, rfl⟩) ?_ ?_
    rotate_left
    · simp only [Act.put, List.setIfInBounds_toArray, List.set_cons_zero, List.set_cons_succ, i64_w, i32_w]
      rfl
    refine pure_ (i := 32) (N := some 56) (v := ?_) (a' := ?_) #[true, true, true, true, true, true, true, true, true, true, true, true, true, true, true, true, true, true, true, true, true, true, true, true, true, true, true, true, true, true, true, true, true] rfl rfl (by kernel_rfl) (fun _ _ _ h => h) (Or.inl ⟨by rfl, ?_⟩) ?_ ?_
    rotate_left
    · intro w'
      go_simp
      with_reducible rfl
    rotate_left
    · simp only [Act.put, List.setIfInBounds_toArray, List.set_cons_zero, List.set_cons_succ, i64_w, i32_w]
      rfl
    refine done_ (by kernel_rfl) ?_

    go_wp2_with fail
    go_ret
    exact ⟨rfl, hL6.sc.bel⟩
  | true =>
    have haw := HO.out.resolve_left (fun h => h (of_decide_eq_true HC.out))
    obtain ⟨hrow, hk⟩ := haw
    have ht0 := HT.out hk
    subst ht0
    by_cases hlo : n < M.mn
    · clear hrow hk
      go_wp2_with fail
      have hL4 := hSLk.out _ (SC.drew hS1.out)
      refine start_ (n := 33) (S := fun w' => w'.cell? ⟨b, 0, none⟩ = some (.int .u32 M.na) ∧ w'.cell? ⟨b, 1, none⟩ = some (.int .i64 M.nl) ∧ w'.cell? ⟨b, 2, none⟩ = some (.int .i64 M.s) ∧ w'.cell? ⟨b, 3, none⟩ = some (.int .i64 M.mn) ∧ w'.cell? ⟨b, 4, none⟩ = some (.int .i64 M.mx) ∧ w'.cell? ⟨b, 6, none⟩ = some (.map (some bm)) ∧ w'.cell? ⟨w.heap.size, 0, none⟩ = some (.int .u32 a) ∧ w'.cell? ⟨w.heap.size, 1, none⟩ = some (.int .i64 l) ∧ (Instr.lookup 62 (.map (some bm)) (.int .i64 n) false).run Try.prog w' = .ok (.int .i64 0) w' ∧ SC w b vk bm vr M R w.heap.size a l w') (ds := []) #[false, false, false, false, false, false, false, false, false, false, false, false, false, false, false, false, false, false, false, false, false, false, false, false, false, false, false, false, false, false, false, false, false] (by kernel_rfl) rfl rfl ⟨(hL4).1, (hL4).2.1, (hL4).2.2.1, (hL4).2.2.2.1, (hL4).2.2.2.2.1, (hL4).2.2.2.2.2.1, (hL4).2.2.2.2.2.2.1, (hL4).2.2.2.2.2.2.2.1, (hL4).2.2.2.2.2.2.2.2.1, (hL4).2.2.2.2.2.2.2.2.2⟩ (fun hHeld => ?_)
      refine pure_ (i := 0) (N := some 24) (v := ?_) (a' := ?_) #[true, false, false, false, false, false, false, false, false, false, false, false, false, false, false, false, false, false, false, false, false, false, false, false, false, false, false, false, false, false, false, false, false] rfl rfl (by kernel_rfl) (fun _ _ _ h => h) (Or.inl ⟨by rfl, ?_⟩) ?_ ?_
      rotate_left
      · intro w'
        go_simp
        with_reducible rfl
      rotate_left
      · simp only [Act.put, List.setIfInBounds_toArray, List.set_cons_zero, List.set_cons_succ, i64_w, i32_w]
        rfl
      refine pure_ (i := 1) (N := some 25) (v := ?_) (a' := ?_) #[true, true, false, false, false, false, false, false, false, false, false, false, false, false, false, false, false, false, false, false, false, false, false, false, false, false, false, false, false, false, false, false, false] rfl rfl (by kernel_rfl) (fun _ _ _ h => h) (Or.inl ⟨by rfl, ?_⟩) ?_ ?_
      rotate_left
      · intro w'
        go_simp
        with_reducible rfl
      rotate_left
      · simp only [Act.put, List.setIfInBounds_toArray, List.set_cons_zero, List.set_cons_succ, i64_w, i32_w]
        rfl
      refine pure_ (i := 2) (N := some 26) (v := ?_) (a' := ?_) #[true, true, true, false, false, false, false, false, false, false, false, false, false, false, false, false, false, false, false, false, false, false, false, false, false, false, false, false, false, false, false, false, false] rfl rfl (by kernel_rfl) (fun _ _ _ h => h) (Or.inl ⟨by rfl, ?_⟩) ?_ ?_
      rotate_left
      · intro w'
        go_simp
        with_reducible rfl
      rotate_left
      · simp only [Act.put, List.setIfInBounds_toArray, List.set_cons_zero, List.set_cons_succ, i64_w, i32_w]
        rfl
      refine pure_ (i := 4) (N := some 28) (v := ?_) (a' := ?_) #[true, true, true, false, true, false, false, false, false, false, false, false, false, false, false, false, false, false, false, false, false, false, false, false, false, false, false, false, false, false, false, false, false] rfl rfl (by kernel_rfl) (fun _ _ _ h => h) (Or.inl ⟨by rfl, ?_⟩) ?_ ?_
      rotate_left
      · intro w'
        go_simp
        with_reducible rfl
      rotate_left
      · simp only [Act.put, List.setIfInBounds_toArray, List.set_cons_zero, List.set_cons_succ, i64_w, i32_w]
        rfl
      refine take_ (i := 3) (N := some 27) (v := ?_) (a' := ?_) #[true, true, true, true, true, false, false, false, false, false, false, false, false, false, false, false, false, false, false, false, false, false, false, false, false, false, false, false, false, false, false, false, false] rfl rfl (by kernel_rfl) (fun _ _ _ h => h) (Or.inl ⟨by rfl, ?_⟩) hHeld ?_ ?_
      rotate_left
      · rintro w' ⟨s0, s1, s2, s3, s4, s5, s6, s7, s8, s9⟩
        go_simp
        with_reducible rfl
      rotate_left
      · simp only [Act.put, List.setIfInBounds_toArray, List.set_cons_zero, List.set_cons_succ, i64_w, i32_w]
        rfl
      refine take_ (i := 5) (N := some 29) (v := ?_) (a' := ?_) #[true, true, true, true, true, true, false, false, false, false, false, false, false, false, false, false, false, false, false, false, false, false, false, false, false, false, false, false, false, false, false, false, false] rfl rfl (by kernel_rfl) (fun _ _ _ h => h) (Or.inl ⟨by rfl, ?_⟩) hHeld ?_ ?_
      rotate_left
      · rintro w' ⟨s0, s1, s2, s3, s4, s5, s6, s7, s8, s9⟩
        go_simp
        with_reducible rfl
      rotate_left
      · simp only [Act.put, List.setIfInBounds_toArray, List.set_cons_zero, List.set_cons_succ, i64_w, i32_w]
        rfl
      refine one_ (i := 6) (N := some 30) #[true, true, true, true, true, true, true, false, false, false, false, false, false, false, false, false, false, false, false, false, false, false, false, false, false, false, false, false, false, false, false, false, false] rfl rfl (by kernel_rfl) (by decide) (fun K hK => ?_)
      refine goes_ Try.func30 (by kernel_rfl) rfl #[.agg #[.int .u32 M.na, .int .i64 M.nl], .int .u32 a] (by rfl) rfl rfl (by simp only [List.map_toArray, List.map_cons, List.map_nil]; rfl) ?_
      with_reducible refine (hC.out _).mono ?_
      rintro e_ w6 ⟨rfl, hb6⟩
      refine ⟨_, rfl, ?_⟩
      have hL6 := hSLk.out _ (SC.keep hb6 hL4.sc)
      refine hK.out _ _ ⟨(hL6).1, (hL6).2.1, (hL6).2.2.1, (hL6).2.2.2.1, (hL6).2.2.2.2.1, (hL6).2.2.2.2.2.1, (hL6).2.2.2.2.2.2.1, (hL6).2.2.2.2.2.2.2.1, (hL6).2.2.2.2.2.2.2.2.1, (hL6).2.2.2.2.2.2.2.2.2⟩ (fun hHeld => ?_)
      clear hK K
      refine norm_ (a' := ?_) ?_ ?_
      rotate_left
      · show Act.put _ (some 30) _ = _
        simp only [Act.put, List.setIfInBounds_toArray, List.set_cons_zero, List.set_cons_succ, i64_w, i32_w]
        rfl
      refine pure_ (i := 7) (N := some 31) (v := ?_) (a' := ?_) #[true, true, true, true, true, true, true, true, false, false, false, false, false, false, false, false, false, false, false, false, false, false, false, false, false, false, false, false, false, false, false, false, false] rfl rfl (by kernel_rfl) (fun _ _ _ h => h) (Or.inl ⟨by rfl, ?_⟩) ?_ ?_
      rotate_left
      · intro w'
        go_simp
        with_reducible rfl
      rotate_left
      · simp only [Act.put, List.setIfInBounds_toArray, List.set_cons_zero, List.set_cons_succ, i64_w, i32_w]
        rfl
      refine pure_ (i := 8) (N := some 32) (v := ?_) (a' := ?_) #[true, true, true, true, true, true, true, true, true, false, false, false, false, false, false, false, false, false, false, false, false, false, false, false, false, false, false, false, false, false, false, false, false] rfl rfl (by kernel_rfl) (fun _ _ _ h => h) (Or.inl ⟨by rfl, ?_⟩) ?_ ?_
      rotate_left
      · intro w'
        go_simp
        with_reducible rfl
      rotate_left
      · simp only [Act.put, List.setIfInBounds_toArray, List.set_cons_zero, List.set_cons_succ, i64_w, i32_w]
        rfl
      refine pure_ (i := 9) (N := some 33) (v := ?_) (a' := ?_) #[true, true, true, true, true, true, true, true, true, true, false, false, false, false, false, false, false, false, false, false, false, false, false, false, false, false, false, false, false, false, false, false, false] rfl rfl (by kernel_rfl) (fun _ _ _ h => h) (Or.inl ⟨by rfl, ?_⟩) ?_ ?_
      rotate_left
      · intro w'
        go_simp
        with_reducible rfl
      rotate_left
      · simp only [Act.put, List.setIfInBounds_toArray, List.set_cons_zero, List.set_cons_succ, i64_w, i32_w]
        rfl
      refine pure_ (i := 10) (N := some 34) (v := ?_) (a' := ?_) #[true, true, true, true, true, true, true, true, true, true, true, false, false, false, false, false, false, false, false, false, false, false, false, false, false, false, false, false, false, false, false, false, false] rfl rfl (by kernel_rfl) (fun _ _ _ h => h) (Or.inl ⟨by rfl, ?_⟩) ?_ ?_
      rotate_left
      · intro w'
        go_simp
        with_reducible rfl
      rotate_left
      · simp only [Act.put, List.setIfInBounds_toArray, List.set_cons_zero, List.set_cons_succ, i64_w, i32_w]
        rfl
      refine pure_ (i := 11) (N := some 35) (v := ?_) (a' := ?_) #[true, true, true, true, true, true, true, true, true, true, true, true, false, false, false, false, false, false, false, false, false, false, false, false, false, false, false, false, false, false, false, false, false] rfl rfl (by kernel_rfl) (fun _ _ _ h => h) (Or.inl ⟨by rfl, ?_⟩) ?_ ?_
      rotate_left
      · intro w'
        go_simp
        with_reducible rfl
      rotate_left
      · simp only [Act.put, List.setIfInBounds_toArray, List.set_cons_zero, List.set_cons_succ, i64_w, i32_w]
        rfl
      refine pure_ (i := 12) (N := some 36) (v := ?_) (a' := ?_) #[true, true, true, true, true, true, true, true, true, true, true, true, true, false, false, false, false, false, false, false, false, false, false, false, false, false, false, false, false, false, false, false, false] rfl rfl (by kernel_rfl) (fun _ _ _ h => h) (Or.inl ⟨by rfl, ?_⟩) ?_ ?_
      rotate_left
      · intro w'
        go_simp
        with_reducible rfl
      rotate_left
      · simp only [Act.put, List.setIfInBounds_toArray, List.set_cons_zero, List.set_cons_succ, i64_w, i32_w]
        rfl
      refine take_ (i := 13) (N := some 37) (v := ?_) (a' := ?_) #[true, true, true, true, true, true, true, true, true, true, true, true, true, true, false, false, false, false, false, false, false, false, false, false, false, false, false, false, false, false, false, false, false] rfl rfl (by kernel_rfl) (fun _ _ _ h => h) (Or.inl ⟨by rfl, ?_⟩) hHeld ?_ ?_
      rotate_left
      · rintro w' ⟨s0, s1, s2, s3, s4, s5, s6, s7, s8, s9⟩
        go_simp
        with_reducible rfl
      rotate_left
      · simp only [Act.put, List.setIfInBounds_toArray, List.set_cons_zero, List.set_cons_succ, i64_w, i32_w]
        rfl
      refine pure_ (i := 14) (N := some 38) (v := ?_) (a' := ?_) #[true, true, true, true, true, true, true, true, true, true, true, true, true, true, true, false, false, false, false, false, false, false, false, false, false, false, false, false, false, false, false, false, false] rfl rfl (by kernel_rfl) (fun _ _ _ h => h) (Or.inl ⟨by rfl, ?_⟩) ?_ ?_
      rotate_left
      · intro w'
        go_simp
        with_reducible rfl
      rotate_left
      · simp only [Act.put, List.setIfInBounds_toArray, List.set_cons_zero, List.set_cons_succ, i64_w, i32_w]
        rfl
      refine pure_ (i := 15) (N := some 39) (v := ?_) (a' := ?_) #[true, true, true, true, true, true, true, true, true, true, true, true, true, true, true, true, false, false, false, false, false, false, false, false, false, false, false, false, false, false, false, false, false] rfl rfl (by kernel_rfl) (fun _ _ _ h => h) (Or.inl ⟨by rfl, ?_⟩) ?_ ?_
      rotate_left
      · intro w'
        go_simp
        with_reducible rfl
      rotate_left
      · simp only [Act.put, List.setIfInBounds_toArray, List.set_cons_zero, List.set_cons_succ, i64_w, i32_w]
        rfl
      refine pure_ (i := 16) (N := some 40) (v := undef) (a' := ?_) #[true, true, true, true, true, true, true, true, true, true, true, true, true, true, true, true, true, false, false, false, false, false, false, false, false, false, false, false, false, false, false, false, false] rfl rfl (by kernel_rfl) (fun _ _ _ h => h) (Or.inr ⟨by rfl, rfl⟩) ?_ ?_
      rotate_left
      · simp only [Act.put, List.setIfInBounds_toArray, List.set_cons_zero, List.set_cons_succ, i64_w, i32_w]
        rfl
      refine pure_ (i := 17) (N := some 41) (v := undef) (a' := ?_) #[true, true, true, true, true, true, true, true, true, true, true, true, true, true, true, true, true, true, false, false, false, false, false, false, false, false, false, false, false, false, false, false, false] rfl rfl (by kernel_rfl) (fun _ _ _ h => h) (Or.inr ⟨by rfl, rfl⟩) ?_ ?_
      rotate_left
      · simp only [Act.put, List.setIfInBounds_toArray, List.set_cons_zero, List.set_cons_succ, i64_w, i32_w]
        rfl
      refine pure_ (i := 18) (N := some 42) (v := undef) (a' := ?_) #[true, true, true, true, true, true, true, true, true, true, true, true, true, true, true, true, true, true, true, false, false, false, false, false, false, false, false, false, false, false, false, false, false] rfl rfl (by kernel_rfl) (fun _ _ _ h => h) (Or.inr ⟨by rfl, rfl⟩) ?_ ?_
      rotate_left
      · simp only [Act.put, List.setIfInBounds_toArray, List.set_cons_zero, List.set_cons_succ, i64_w, i32_w]
        rfl
      refine pure_ (i := 19) (N := some 43) (v := undef) (a' := ?_) #[true, true, true, true, true, true, true, true, true, true, true, true, true, true, true, true, true, true, true, true, false, false, false, false, false, false, false, false, false, false, false, false, false] rfl rfl (by kernel_rfl) (fun _ _ _ h => h) (Or.inr ⟨by rfl, rfl⟩) ?_ ?_
      rotate_left
      · simp only [Act.put, List.setIfInBounds_toArray, List.set_cons_zero, List.set_cons_succ, i64_w, i32_w]
        rfl
      refine pure_ (i := 20) (N := some 44) (v := undef) (a' := ?_) #[true, true, true, true, true, true, true, true, true, true, true, true, true, true, true, true, true, true, true, true, true, false, false, false, false, false, false, false, false, false, false, false, false] rfl rfl (by kernel_rfl) (fun _ _ _ h => h) (Or.inr ⟨by rfl, rfl⟩) ?_ ?_
      rotate_left
      · simp only [Act.put, List.setIfInBounds_toArray, List.set_cons_zero, List.set_cons_succ, i64_w, i32_w]
        rfl
      refine pure_ (i := 21) (N := some 45) (v := undef) (a' := ?_) #[true, true, true, true, true, true, true, true, true, true, true, true, true, true, true, true, true, true, true, true, true, true, false, false, false, false, false, false, false, false, false, false, false] rfl rfl (by kernel_rfl) (fun _ _ _ h => h) (Or.inr ⟨by rfl, rfl⟩) ?_ ?_
      rotate_left
      · simp only [Act.put, List.setIfInBounds_toArray, List.set_cons_zero, List.set_cons_succ, i64_w, i32_w]
        rfl
      refine pure_ (i := 22) (N := some 46) (v := ?_) (a' := ?_) #[true, true, true, true, true, true, true, true, true, true, true, true, true, true, true, true, true, true, true, true, true, true, true, false, false, false, false, false, false, false, false, false, false] rfl rfl (by kernel_rfl) (fun _ _ _ h => h) (Or.inl ⟨by rfl, ?_⟩) ?_ ?_
      rotate_left
      · intro w'
        go_simp
        with_reducible rfl
      rotate_left
      · simp only [Act.put, List.setIfInBounds_toArray, List.set_cons_zero, List.set_cons_succ, i64_w, i32_w]
        rfl
      refine pure_ (i := 23) (N := some 47) (v := ?_) (a' := ?_) #[true, true, true, true, true, true, true, true, true, true, true, true, true, true, true, true, true, true, true, true, true, true, true, true, false, false, false, false, false, false, false, false, false] rfl rfl (by kernel_rfl) (fun _ _ _ h => h) (Or.inl ⟨by rfl, ?_⟩) ?_ ?_
      rotate_left
      · intro w'
        go_simp
        with_reducible rfl
      rotate_left
      · simp only [Act.put, List.setIfInBounds_toArray, List.set_cons_zero, List.set_cons_succ, i64_w, i32_w]
        rfl
      refine pure_ (i := 24) (N := some 48) (v := ?_) (a' := ?_) #[true, true, true, true, true, true, true, true, true, true, true, true, true, true, true, true, true, true, true, true, true, true, true, true, true, false, false, false, false, false, false, false, false] rfl rfl (by kernel_rfl) (fun _ _ _ h => h) (Or.inl ⟨by rfl, ?_⟩) ?_ ?_
      rotate_left
      · intro w'
        go_simp
        with_reducible rfl
      rotate_left
      · simp only [Act.put, List.setIfInBounds_toArray, List.set_cons_zero, List.set_cons_succ, i64_w, i32_w]
        rfl
      refine pure_ (i := 25) (N := some 49) (v := ?_) (a' := ?_) #[true, true, true, true, true, true, true, true, true, true, true, true, true, true, true, true, true, true, true, true, true, true, true, true, true, true, false, false, false, false, false, false, false] rfl rfl (by kernel_rfl) (fun _ _ _ h => h) (Or.inl ⟨by rfl, ?_⟩) ?_ ?_
      rotate_left
      · intro w'
        go_simp
        with_reducible rfl
      rotate_left
      · simp only [Act.put, List.setIfInBounds_toArray, List.set_cons_zero, List.set_cons_succ, i64_w, i32_w]
        rfl
      refine pure_ (i := 26) (N := some 50) (v := ?_) (a' := ?_) #[true, true, true, true, true, true, true, true, true, true, true, true, true, true, true, true, true, true, true, true, true, true, true, true, true, true, true, false, false, false, false, false, false] rfl rfl (by kernel_rfl) (fun _ _ _ h => h) (Or.inl ⟨by rfl, ?_⟩) ?_ ?_
      rotate_left
      · intro w'
        go_simp
        with_reducible rfl
      rotate_left
      · simp only [Act.put, List.setIfInBounds_toArray, List.set_cons_zero, List.set_cons_succ, i64_w, i32_w]
        rfl
      refine pure_ (i := 28) (N := some 52) (v := ?_) (a' := ?_) #[true, true, true, true, true, true, true, true, true, true, true, true, true, true, true, true, true, true, true, true, true, true, true, true, true, true, true, false, true, false, false, false, false] rfl rfl (by kernel_rfl) (fun _ _ _ h => h) (Or.inl ⟨by rfl, ?_⟩) ?_ ?_
      rotate_left
      · intro w'
        go_simp
        with_reducible rfl
      rotate_left
      · simp only [Act.put, List.setIfInBounds_toArray, List.set_cons_zero, List.set_cons_succ, i64_w, i32_w]
        rfl
      refine take_ (i := 27) (N := some 51) (v := ?_) (a' := ?_) #[true, true, true, true, true, true, true, true, true, true, true, true, true, true, true, true, true, true, true, true, true, true, true, true, true, true, true, true, true, false, false, false, false] rfl rfl (by kernel_rfl) (fun _ _ _ h => h) (Or.inl ⟨by rfl, ?_⟩) hHeld ?_ ?_
      rotate_left
      · rintro w' ⟨s0, s1, s2, s3, s4, s5, s6, s7, s8, s9⟩
        go_simp
        with_reducible rfl
      rotate_left
      · simp only [Act.put, List.setIfInBounds_toArray, List.set_cons_zero, List.set_cons_succ, i64_w, i32_w]
        rfl
      refine take_ (i := 29) (N := some 53) (v := ?_) (a' := ?_) #[true, true, true, true, true, true, true, true, true, true, true, true, true, true, true, true, true, true, true, true, true, true, true, true, true, true, true, true, true, true, false, false, false] rfl rfl (by kernel_rfl) (fun _ _ _ h => h) (Or.inl ⟨by rfl, ?_⟩) hHeld ?_ ?_
      rotate_left
      · rintro w' ⟨s0, s1, s2, s3, s4, s5, s6, s7, s8, s9⟩
        go_simp
        with_reducible rfl
      rotate_left
      · simp only [Act.put, List.setIfInBounds_toArray, List.set_cons_zero, List.set_cons_succ, i64_w, i32_w]
        rfl
      refine pure_ (i := 30) (N := some 54) (v := ?_) (a' := ?_) #[true, true, true, true, true, true, true, true, true, true, true, true, true, true, true, true, true, true, true, true, true, true, true, true, true, true, true, true, true, true, true, false, false] rfl rfl (by kernel_rfl) (fun _ _ _ h => h) (Or.inl ⟨by rfl, ?_⟩) ?_ ?_
      rotate_left
      · intro w'
        go_simp
        with_reducible rfl
      rotate_left
      · simp only [Act.put, List.setIfInBounds_toArray, List.set_cons_zero, List.set_cons_succ, i64_w, i32_w]
        rfl
      refine pure_ (i := 31) (N := some 55) (v := ?_) (a' := ?_) #[true, true, true, true, true, true, true, true, true, true, true, true, true, true, true, true, true, true, true, true, true, true, true, true, true, true, true, true, true, true, true, true, false] rfl rfl (by kernel_rfl) (fun _ _ _ h => h) (Or.inl ⟨by rfl, ?_⟩) ?_ ?_
      rotate_left
      · intro w'
        go_simp
        with_reducible rfl
      rotate_left
      · simp only [Act.put, List.setIfInBounds_toArray, List.set_cons_zero, List.set_cons_succ, i64_w, i32_w]
        rfl
      refine pure_ (i := 32) (N := some 56) (v := ?_) (a' := ?_) #[true, true, true, true, true, true, true, true, true, true, true, true, true, true, true, true, true, true, true, true, true, true, true, true, true, true, true, true, true, true, true, true, true] rfl rfl (by kernel_rfl) (fun _ _ _ h => h) (Or.inl ⟨by rfl, ?_⟩) ?_ ?_
      rotate_left
      · intro w'
        go_simp
        with_reducible rfl
      rotate_left
      · simp only [Act.put, List.setIfInBounds_toArray, List.set_cons_zero, List.set_cons_succ, i64_w, i32_w]
        rfl
      refine done_ (by kernel_rfl) ?_

      go_wp2_with fail
      go_ret
      exact ⟨rfl, hL6.sc.bel⟩
    · have hhi : decide (M.mx < n) = true := decide_eq_true (hrow.resolve_left hlo)
      have hlob : decide (n < M.mn) = false := decide_eq_false hlo
      clear hrow hk hlo
      go_wp2_with fail
      have hL4 := hSLk.out _ (SC.drew hS1.out)
      refine start_ (n := 33) (S := fun w' => w'.cell? ⟨b, 0, none⟩ = some (.int .u32 M.na) ∧ w'.cell? ⟨b, 1, none⟩ = some (.int .i64 M.nl) ∧ w'.cell? ⟨b, 2, none⟩ = some (.int .i64 M.s) ∧ w'.cell? ⟨b, 3, none⟩ = some (.int .i64 M.mn) ∧ w'.cell? ⟨b, 4, none⟩ = some (.int .i64 M.mx) ∧ w'.cell? ⟨b, 6, none⟩ = some (.map (some bm)) ∧ w'.cell? ⟨w.heap.size, 0, none⟩ = some (.int .u32 a) ∧ w'.cell? ⟨w.heap.size, 1, none⟩ = some (.int .i64 l) ∧ (Instr.lookup 62 (.map (some bm)) (.int .i64 n) false).run Try.prog w' = .ok (.int .i64 0) w' ∧ SC w b vk bm vr M R w.heap.size a l w') (ds := []) #[false, false, false, false, false, false, false, false, false, false, false, false, false, false, false, false, false, false, false, false, false, false, false, false, false, false, false, false, false, false, false, false, false] (by kernel_rfl) rfl rfl ⟨(hL4).1, (hL4).2.1, (hL4).2.2.1, (hL4).2.2.2.1, (hL4).2.2.2.2.1, (hL4).2.2.2.2.2.1, (hL4).2.2.2.2.2.2.1, (hL4).2.2.2.2.2.2.2.1, (hL4).2.2.2.2.2.2.2.2.1, (hL4).2.2.2.2.2.2.2.2.2⟩ (fun hHeld => ?_)
      refine pure_ (i := 0) (N := some 24) (v := ?_) (a' := ?_) #[true, false, false, false, false, false, false, false, false, false, false, false, false, false, false, false, false, false, false, false, false, false, false, false, false, false, false, false, false, false, false, false, false] rfl rfl (by kernel_rfl) (fun _ _ _ h => h) (Or.inl ⟨by rfl, ?_⟩) ?_ ?_
      rotate_left
      · intro w'
        go_simp
        with_reducible rfl
      rotate_left
      · simp only [Act.put, List.setIfInBounds_toArray, List.set_cons_zero, List.set_cons_succ, i64_w, i32_w]
        rfl
      refine pure_ (i := 1) (N := some 25) (v := ?_) (a' := ?_) #[true, true, false, false, false, false, false, false, false, false, false, false, false, false, false, false, false, false, false, false, false, false, false, false, false, false, false, false, false, false, false, false, false] rfl rfl (by kernel_rfl) (fun _ _ _ h => h) (Or.inl ⟨by rfl, ?_⟩) ?_ ?_
      rotate_left
      · intro w'
        go_simp
        with_reducible rfl
      rotate_left
      · simp only [Act.put, List.setIfInBounds_toArray, List.set_cons_zero, List.set_cons_succ, i64_w, i32_w]
        rfl
      refine pure_ (i := 2) (N := some 26) (v := ?_) (a' := ?_) #[true, true, true, false, false, false, false, false, false, false, false, false, false, false, false, false, false, false, false, false, false, false, false, false, false, false, false, false, false, false, false, false, false] rfl rfl (by kernel_rfl) (fun _ _ _ h => h) (Or.inl ⟨by rfl, ?_⟩) ?_ ?_
      rotate_left
      · intro w'
        go_simp
        with_reducible rfl
      rotate_left
      · simp only [Act.put, List.setIfInBounds_toArray, List.set_cons_zero, List.set_cons_succ, i64_w, i32_w]
        rfl
      refine pure_ (i := 4) (N := some 28) (v := ?_) (a' := ?_) #[true, true, true, false, true, false, false, false, false, false, false, false, false, false, false, false, false, false, false, false, false, false, false, false, false, false, false, false, false, false, false, false, false] rfl rfl (by kernel_rfl) (fun _ _ _ h => h) (Or.inl ⟨by rfl, ?_⟩) ?_ ?_
      rotate_left
      · intro w'
        go_simp
        with_reducible rfl
      rotate_left
      · simp only [Act.put, List.setIfInBounds_toArray, List.set_cons_zero, List.set_cons_succ, i64_w, i32_w]
        rfl
      refine take_ (i := 3) (N := some 27) (v := ?_) (a' := ?_) #[true, true, true, true, true, false, false, false, false, false, false, false, false, false, false, false, false, false, false, false, false, false, false, false, false, false, false, false, false, false, false, false, false] rfl rfl (by kernel_rfl) (fun _ _ _ h => h) (Or.inl ⟨by rfl, ?_⟩) hHeld ?_ ?_
      rotate_left
      · rintro w' ⟨s0, s1, s2, s3, s4, s5, s6, s7, s8, s9⟩
        go_simp
        with_reducible rfl
      rotate_left
      · simp only [Act.put, List.setIfInBounds_toArray, List.set_cons_zero, List.set_cons_succ, i64_w, i32_w]
        rfl
      refine take_ (i := 5) (N := some 29) (v := ?_) (a' := ?_) #[true, true, true, true, true, true, false, false, false, false, false, false, false, false, false, false, false, false, false, false, false, false, false, false, false, false, false, false, false, false, false, false, false] rfl rfl (by kernel_rfl) (fun _ _ _ h => h) (Or.inl ⟨by rfl, ?_⟩) hHeld ?_ ?_
      rotate_left
      · rintro w' ⟨s0, s1, s2, s3, s4, s5, s6, s7, s8, s9⟩
        go_simp
        with_reducible rfl
      rotate_left
      · simp only [Act.put, List.setIfInBounds_toArray, List.set_cons_zero, List.set_cons_succ, i64_w, i32_w]
        rfl
      refine one_ (i := 6) (N := some 30) #[true, true, true, true, true, true, true, false, false, false, false, false, false, false, false, false, false, false, false, false, false, false, false, false, false, false, false, false, false, false, false, false, false] rfl rfl (by kernel_rfl) (by decide) (fun K hK => ?_)
      refine goes_ Try.func30 (by kernel_rfl) rfl #[.agg #[.int .u32 M.na, .int .i64 M.nl], .int .u32 a] (by rfl) rfl rfl (by simp only [List.map_toArray, List.map_cons, List.map_nil]; rfl) ?_
      with_reducible refine (hC.out _).mono ?_
      rintro e_ w6 ⟨rfl, hb6⟩
      refine ⟨_, rfl, ?_⟩
      have hL6 := hSLk.out _ (SC.keep hb6 hL4.sc)
      refine hK.out _ _ ⟨(hL6).1, (hL6).2.1, (hL6).2.2.1, (hL6).2.2.2.1, (hL6).2.2.2.2.1, (hL6).2.2.2.2.2.1, (hL6).2.2.2.2.2.2.1, (hL6).2.2.2.2.2.2.2.1, (hL6).2.2.2.2.2.2.2.2.1, (hL6).2.2.2.2.2.2.2.2.2⟩ (fun hHeld => ?_)
      clear hK K
      refine norm_ (a' := ?_) ?_ ?_
      rotate_left
      · show Act.put _ (some 30) _ = _
        simp only [Act.put, List.setIfInBounds_toArray, List.set_cons_zero, List.set_cons_succ, i64_w, i32_w]
        rfl
      refine pure_ (i := 7) (N := some 31) (v := ?_) (a' := ?_) #[true, true, true, true, true, true, true, true, false, false, false, false, false, false, false, false, false, false, false, false, false, false, false, false, false, false, false, false, false, false, false, false, false] rfl rfl (by kernel_rfl) (fun _ _ _ h => h) (Or.inl ⟨by rfl, ?_⟩) ?_ ?_
      rotate_left
      · intro w'
        go_simp
        with_reducible rfl
      rotate_left
      · simp only [Act.put, List.setIfInBounds_toArray, List.set_cons_zero, List.set_cons_succ, i64_w, i32_w]
        rfl
      refine pure_ (i := 8) (N := some 32) (v := ?_) (a' := ?_) #[true, true, true, true, true, true, true, true, true, false, false, false, false, false, false, false, false, false, false, false, false, false, false, false, false, false, false, false, false, false, false, false, false] rfl rfl (by kernel_rfl) (fun _ _ _ h => h) (Or.inl ⟨by rfl, ?_⟩) ?_ ?_
      rotate_left
      · intro w'
        go_simp
        with_reducible rfl
      rotate_left
      · simp only [Act.put, List.setIfInBounds_toArray, List.set_cons_zero, List.set_cons_succ, i64_w, i32_w]
        rfl
      refine pure_ (i := 9) (N := some 33) (v := ?_) (a' := ?_) #[true, true, true, true, true, true, true, true, true, true, false, false, false, false, false, false, false, false, false, false, false, false, false, false, false, false, false, false, false, false, false, false, false] rfl rfl (by kernel_rfl) (fun _ _ _ h => h) (Or.inl ⟨by rfl, ?_⟩) ?_ ?_
      rotate_left
      · intro w'
        go_simp
        with_reducible rfl
      rotate_left
      · simp only [Act.put, List.setIfInBounds_toArray, List.set_cons_zero, List.set_cons_succ, i64_w, i32_w]
        rfl
      refine pure_ (i := 10) (N := some 34) (v := ?_) (a' := ?_) #[true, true, true, true, true, true, true, true, true, true, true, false, false, false, false, false, false, false, false, false, false, false, false, false, false, false, false, false, false, false, false, false, false] rfl rfl (by kernel_rfl) (fun _ _ _ h => h) (Or.inl ⟨by rfl, ?_⟩) ?_ ?_
      rotate_left
      · intro w'
        go_simp
        with_reducible rfl
      rotate_left
      · simp only [Act.put, List.setIfInBounds_toArray, List.set_cons_zero, List.set_cons_succ, i64_w, i32_w]
        rfl
      refine pure_ (i := 11) (N := some 35) (v := ?_) (a' := ?_) #[true, true, true, true, true, true, true, true, true, true, true, true, false, false, false, false, false, false, false, false, false, false, false, false, false, false, false, false, false, false, false, false, false] rfl rfl (by kernel_rfl) (fun _ _ _ h => h) (Or.inl ⟨by rfl, ?_⟩) ?_ ?_
      rotate_left
      · intro w'
        go_simp
        with_reducible rfl
      rotate_left
      · simp only [Act.put, List.setIfInBounds_toArray, List.set_cons_zero, List.set_cons_succ, i64_w, i32_w]
        rfl
      refine pure_ (i := 12) (N := some 36) (v := ?_) (a' := ?_) #[true, true, true, true, true, true, true, true, true, true, true, true, true, false, false, false, false, false, false, false, false, false, false, false, false, false, false, false, false, false, false, false, false] rfl rfl (by kernel_rfl) (fun _ _ _ h => h) (Or.inl ⟨by rfl, ?_⟩) ?_ ?_
      rotate_left
      · intro w'
        go_simp
        with_reducible rfl
      rotate_left
      · simp only [Act.put, List.setIfInBounds_toArray, List.set_cons_zero, List.set_cons_succ, i64_w, i32_w]
        rfl
      refine take_ (i := 13) (N := some 37) (v := ?_) (a' := ?_) #[true, true, true, true, true, true, true, true, true, true, true, true, true, true, false, false, false, false, false, false, false, false, false, false, false, false, false, false, false, false, false, false, false] rfl rfl (by kernel_rfl) (fun _ _ _ h => h) (Or.inl ⟨by rfl, ?_⟩) hHeld ?_ ?_
      rotate_left
      · rintro w' ⟨s0, s1, s2, s3, s4, s5, s6, s7, s8, s9⟩
        go_simp
        with_reducible rfl
      rotate_left
      · simp only [Act.put, List.setIfInBounds_toArray, List.set_cons_zero, List.set_cons_succ, i64_w, i32_w]
        rfl
      refine pure_ (i := 14) (N := some 38) (v := ?_) (a' := ?_) #[true, true, true, true, true, true, true, true, true, true, true, true, true, true, true, false, false, false, false, false, false, false, false, false, false, false, false, false, false, false, false, false, false] rfl rfl (by kernel_rfl) (fun _ _ _ h => h) (Or.inl ⟨by rfl, ?_⟩) ?_ ?_
      rotate_left
      · intro w'
        go_simp
        with_reducible rfl
      rotate_left
      · simp only [Act.put, List.setIfInBounds_toArray, List.set_cons_zero, List.set_cons_succ, i64_w, i32_w]
        rfl
      refine pure_ (i := 15) (N := some 39) (v := ?_) (a' := ?_) #[true, true, true, true, true, true, true, true, true, true, true, true, true, true, true, true, false, false, false, false, false, false, false, false, false, false, false, false, false, false, false, false, false] rfl rfl (by kernel_rfl) (fun _ _ _ h => h) (Or.inl ⟨by rfl, ?_⟩) ?_ ?_
      rotate_left
      · intro w'
        go_simp
        with_reducible rfl
      rotate_left
      · simp only [Act.put, List.setIfInBounds_toArray, List.set_cons_zero, List.set_cons_succ, i64_w, i32_w]
        rfl
      refine pure_ (i := 16) (N := some 40) (v := ?_) (a' := ?_) #[true, true, true, true, true, true, true, true, true, true, true, true, true, true, true, true, true, false, false, false, false, false, false, false, false, false, false, false, false, false, false, false, false] rfl rfl (by kernel_rfl) (fun _ _ _ h => h) (Or.inl ⟨by rfl, ?_⟩) ?_ ?_
      rotate_left
      · intro w'
        go_simp
        with_reducible rfl
      rotate_left
      · simp only [Act.put, List.setIfInBounds_toArray, List.set_cons_zero, List.set_cons_succ, i64_w, i32_w]
        rfl
      refine pure_ (i := 17) (N := some 41) (v := ?_) (a' := ?_) #[true, true, true, true, true, true, true, true, true, true, true, true, true, true, true, true, true, true, false, false, false, false, false, false, false, false, false, false, false, false, false, false, false] rfl rfl (by kernel_rfl) (fun _ _ _ h => h) (Or.inl ⟨by rfl, ?_⟩) ?_ ?_
      rotate_left
      · intro w'
        go_simp
        with_reducible rfl
      rotate_left
      · simp only [Act.put, List.setIfInBounds_toArray, List.set_cons_zero, List.set_cons_succ, i64_w, i32_w]
        rfl
      refine pure_ (i := 18) (N := some 42) (v := ?_) (a' := ?_) #[true, true, true, true, true, true, true, true, true, true, true, true, true, true, true, true, true, true, true, false, false, false, false, false, false, false, false, false, false, false, false, false, false] rfl rfl (by kernel_rfl) (fun _ _ _ h => h) (Or.inl ⟨by rfl, ?_⟩) ?_ ?_
      rotate_left
      · intro w'
        go_simp
        with_reducible rfl
      rotate_left
      · simp only [Act.put, List.setIfInBounds_toArray, List.set_cons_zero, List.set_cons_succ, i64_w, i32_w]
        rfl
      refine pure_ (i := 19) (N := some 43) (v := ?_) (a' := ?_) #[true, true, true, true, true, true, true, true, true, true, true, true, true, true, true, true, true, true, true, true, false, false, false, false, false, false, false, false, false, false, false, false, false] rfl rfl (by kernel_rfl) (fun _ _ _ h => h) (Or.inl ⟨by rfl, ?_⟩) ?_ ?_
      rotate_left
      · intro w'
        go_simp
        with_reducible rfl
      rotate_left
      · simp only [Act.put, List.setIfInBounds_toArray, List.set_cons_zero, List.set_cons_succ, i64_w, i32_w]
        rfl
      refine take_ (i := 20) (N := some 44) (v := ?_) (a' := ?_) #[true, true, true, true, true, true, true, true, true, true, true, true, true, true, true, true, true, true, true, true, true, false, false, false, false, false, false, false, false, false, false, false, false] rfl rfl (by kernel_rfl) (fun _ _ _ h => h) (Or.inl ⟨by rfl, ?_⟩) hHeld ?_ ?_
      rotate_left
      · rintro w' ⟨s0, s1, s2, s3, s4, s5, s6, s7, s8, s9⟩
        go_simp
        with_reducible rfl
      rotate_left
      · simp only [Act.put, List.setIfInBounds_toArray, List.set_cons_zero, List.set_cons_succ, i64_w, i32_w]
        rfl
      refine pure_ (i := 21) (N := some 45) (v := ?_) (a' := ?_) #[true, true, true, true, true, true, true, true, true, true, true, true, true, true, true, true, true, true, true, true, true, true, false, false, false, false, false, false, false, false, false, false, false] rfl rfl (by kernel_rfl) (fun _ _ _ h => h) (Or.inl ⟨by rfl, ?_⟩) ?_ ?_
      rotate_left
      · intro w'
        go_simp
        with_reducible rfl
      rotate_left
      · simp only [Act.put, List.setIfInBounds_toArray, List.set_cons_zero, List.set_cons_succ, i64_w, i32_w]
        rfl
      refine pure_ (i := 22) (N := some 46) (v := ?_) (a' := ?_) #[true, true, true, true, true, true, true, true, true, true, true, true, true, true, true, true, true, true, true, true, true, true, true, false, false, false, false, false, false, false, false, false, false] rfl rfl (by kernel_rfl) (fun _ _ _ h => h) (Or.inl ⟨by rfl, ?_⟩) ?_ ?_
      rotate_left
      · intro w'
        go_simp
        with_reducible rfl
      rotate_left
      · simp only [Act.put, List.setIfInBounds_toArray, List.set_cons_zero, List.set_cons_succ, i64_w, i32_w]
        rfl
      refine pure_ (i := 23) (N := some 47) (v := ?_) (a' := ?_) #[true, true, true, true, true, true, true, true, true, true, true, true, true, true, true, true, true, true, true, true, true, true, true, true, false, false, false, false, false, false, false, false, false] rfl rfl (by kernel_rfl) (fun _ _ _ h => h) (Or.inl ⟨by rfl, ?_⟩) ?_ ?_
      rotate_left
      · intro w'
        go_simp
        with_reducible rfl
      rotate_left
      · simp only [Act.put, List.setIfInBounds_toArray, List.set_cons_zero, List.set_cons_succ, i64_w, i32_w]
        rfl
      refine pure_ (i := 24) (N := some 48) (v := ?_) (a' := ?_) #[true, true, true, true, true, true, true, true, true, true, true, true, true, true, true, true, true, true, true, true, true, true, true, true, true, false, false, false, false, false, false, false, false] rfl rfl (by kernel_rfl) (fun _ _ _ h => h) (Or.inl ⟨by rfl, ?_⟩) ?_ ?_
      rotate_left
      · intro w'
        go_simp
        with_reducible rfl
      rotate_left
      · simp only [Act.put, List.setIfInBounds_toArray, List.set_cons_zero, List.set_cons_succ, i64_w, i32_w]
        rfl
      refine pure_ (i := 25) (N := some 49) (v := ?_) (a' := ?_) #[true, true, true, true, true, true, true, true, true, true, true, true, true, true, true, true, true, true, true, true, true, true, true, true, true, true, false, false, false, false, false, false, false] rfl rfl (by kernel_rfl) (fun _ _ _ h => h) (Or.inl ⟨by rfl, ?_⟩) ?_ ?_
      rotate_left
      · intro w'
        go_simp
        with_reducible rfl
      rotate_left
      · simp only [Act.put, List.setIfInBounds_toArray, List.set_cons_zero, List.set_cons_succ, i64_w, i32_w]
        rfl
      refine pure_ (i := 26) (N := some 50) (v := ?_) (a' := ?_) #[true, true, true, true, true, true, true, true, true, true, true, true, true, true, true, true, true, true, true, true, true, true, true, true, true, true, true, false, false, false, false, false, false] rfl rfl (by kernel_rfl) (fun _ _ _ h => h) (Or.inl ⟨by rfl, ?_⟩) ?_ ?_
      rotate_left
      · intro w'
        go_simp
        with_reducible rfl
      rotate_left
      · simp only [Act.put, List.setIfInBounds_toArray, List.set_cons_zero, List.set_cons_succ, i64_w, i32_w]
        rfl
      refine pure_ (i := 28) (N := some 52) (v := ?_) (a' := ?_) #[true, true, true, true, true, true, true, true, true, true, true, true, true, true, true, true, true, true, true, true, true, true, true, true, true, true, true, false, true, false, false, false, false] rfl rfl (by kernel_rfl) (fun _ _ _ h => h) (Or.inl ⟨by rfl, ?_⟩) ?_ ?_
      rotate_left
      · intro w'
        go_simp
        with_reducible rfl
      rotate_left
      · simp only [Act.put, List.setIfInBounds_toArray, List.set_cons_zero, List.set_cons_succ, i64_w, i32_w]
        rfl
      refine take_ (i := 27) (N := some 51) (v := ?_) (a' := ?_) #[true, true, true, true, true, true, true, true, true, true, true, true, true, true, true, true, true, true, true, true, true, true, true, true, true, true, true, true, true, false, false, false, false] rfl rfl (by kernel_rfl) (fun _ _ _ h => h) (Or.inl ⟨by rfl, ?_⟩) hHeld ?_ ?_
      rotate_left
      · rintro w' ⟨s0, s1, s2, s3, s4, s5, s6, s7, s8, s9⟩
        go_simp
        with_reducible rfl
      rotate_left
      · simp only [Act.put, List.setIfInBounds_toArray, List.set_cons_zero, List.set_cons_succ, i64_w, i32_w]
        rfl
      refine take_ (i := 29) (N := some 53) (v := ?_) (a' := ?_) #[true, true, true, true, true, true, true, true, true, true, true, true, true, true, true, true, true, true, true, true, true, true, true, true, true, true, true, true, true, true, false, false, false] rfl rfl (by kernel_rfl) (fun _ _ _ h => h) (Or.inl ⟨by rfl, ?_⟩) hHeld ?_ ?_
      rotate_left
      · rintro w' ⟨s0, s1, s2, s3, s4, s5, s6, s7, s8, s9⟩
        go_simp
        with_reducible rfl
      rotate_left
      · simp only [Act.put, List.setIfInBounds_toArray, List.set_cons_zero, List.set_cons_succ, i64_w, i32_w]
        rfl
      refine pure_ (i := 30) (N := some 54) (v := ?_) (a' := ?_) #[true, true, true, true, true, true, true, true, true, true, true, true, true, true, true, true, true, true, true, true, true, true, true, true, true, true, true, true, true, true, true, false, false] rfl rfl (by kernel_rfl) (fun _ _ _ h => h) (Or.inl ⟨by rfl, ?_⟩) ?_ ?_
      rotate_left
      · intro w'
        go_simp
        with_reducible rfl
      rotate_left
      · simp only [Act.put, List.setIfInBounds_toArray, List.set_cons_zero, List.set_cons_succ, i64_w, i32_w]
        rfl
      refine pure_ (i := 31) (N := some 55) (v := ?_) (a' := ?_) #[true, true, true, true, true, true, true, true, true, true, true, true, true, true, true, true, true, true, true, true, true, true, true, true, true, true, true, true, true, true, true, true, false] rfl rfl (by kernel_rfl) (fun _ _ _ h => h) (Or.inl ⟨by rfl, ?_⟩) ?_ ?_
      rotate_left
      · intro w'
        go_simp
        with_reducible rfl
      rotate_left
      · simp only [Act.put, List.setIfInBounds_toArray, List.set_cons_zero, List.set_cons_succ, i64_w, i32_w]
        rfl
      refine pure_ (i := 32) (N := some 56) (v := ?_) (a' := ?_) #[true, true, true, true, true, true, true, true, true, true, true, true, true, true, true, true, true, true, true, true, true, true, true, true, true, true, true, true, true, true, true, true, true] rfl rfl (by kernel_rfl) (fun _ _ _ h => h) (Or.inl ⟨by rfl, ?_⟩) ?_ ?_
      rotate_left
      · intro w'
        go_simp
        with_reducible rfl
      rotate_left
      · simp only [Act.put, List.setIfInBounds_toArray, List.set_cons_zero, List.set_cons_succ, i64_w, i32_w]
        rfl
      refine done_ (by kernel_rfl) ?_

      go_wp2_with fail
      go_ret
      exact ⟨rfl, hL6.sc.bel⟩
end Go.Proofs.Ytebnlhjakiipjaa.Pl
