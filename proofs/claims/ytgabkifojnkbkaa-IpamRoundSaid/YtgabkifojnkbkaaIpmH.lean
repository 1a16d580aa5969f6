/- What masks, lengths and block ends of 32-bit addresses come to, over the printed addr.Span and addr.Contains (as in the addr seat). -/
import Derived.Test.YtgabkifojnkbkaaIpmF
import Derived.Laws.BitsAllLaws
set_option linter.unusedVariables false
set_option linter.unusedSimpArgs false
namespace Go.Proofs.Ytgabkifojnkbkaa.Ip
open Go.RowKit Go.Maps Go.Proofs.YtgabkifojnkbkaaW.PrintWords Go.Proofs.Ytgabkifojnkbkaa.PIpf
/-- the size of a block of length n -/
def sz (n : Nat) : Nat := 2 ^ (32 - n)
theorem sz_pos (n : Nat) : 0 < sz n := Nat.two_pow_pos _
theorem sz_succ {n : Nat} (h : n < 32) : sz n = 2 * sz (n + 1) := by
  unfold sz
  rw [show 32 - n = (32 - (n + 1)) + 1 from by omega, Nat.pow_succ]; omega
theorem sz_le (n : Nat) : sz n ≤ 4294967296 := by
  unfold sz
  have : 2 ^ (32 - n) ≤ 2 ^ 32 := Nat.pow_le_pow_right (by omega) (by omega)
  omega

theorem mask_all : ∀ n : Nat, n < 33 → addr_mask.f (n : Int) = some ((4294967296 - sz n : Nat) : Int) := by decide +kernel
theorem xor_all : ∀ n : Nat, n < 33 → Go.bits .xor .u32 4294967295 ((4294967296 - sz n : Nat) : Int) = ((sz n - 1 : Nat) : Int) := by decide +kernel

theorem mod_sz {a : Int} (n : Nat) (h0 : 0 ≤ a) : ((a.toNat % sz n : Nat) : Int) = a % (sz n : Int) := by
  have : ((a.toNat : Nat) : Int) = a := Int.toNat_of_nonneg h0
  rw [Int.natCast_emod, this]

theorem fault_eq {a : Int} {n k : Nat} (h0 : 0 ≤ a) (h1 : a < 4294967296) (hn : n ≤ 32) (hk : 1 ≤ k) :
    addr_fault.f k a n = some (if a % (sz n : Int) = 0 then 0 else 12) := by
  obtain ⟨k, rfl⟩ : ∃ m, k = m + 1 := ⟨k - 1, by omega⟩
  have hle := sz_le n
  have hp := sz_pos n
  unfold addr_fault.f
  rw [if_neg (by omega), show decide ((n : Int) > 32) = false from decide_eq_false (by omega)]
  simp only [addr_fault.j0]
  rw [if_neg (by decide), mask_all n (by omega), Option.bind_some, Go.u32_andNot _ _ h0 h1 (by omega) (by omega)]
  have e : 4294967295 - (((4294967296 - sz n : Nat) : Int)).toNat = sz n - 1 := by omega
  rw [e]
  have hm : a.toNat &&& (sz n - 1) = a.toNat % sz n := Nat.and_two_pow_sub_one_eq_mod _ _
  rw [hm, mod_sz n h0]
  split <;> rfl

theorem fault_bad {a m : Int} {k : Nat} (hm : m < 0 ∨ 32 < m) (hk : 1 ≤ k) : addr_fault.f k a m = some 11 := by
  obtain ⟨k, rfl⟩ : ∃ m, k = m + 1 := ⟨k - 1, by omega⟩
  unfold addr_fault.f
  by_cases h : m < 0
  · rw [if_pos h]; simp only [addr_fault.j0]; rw [if_pos trivial]
  · rw [if_neg h, show decide (m > 32) = true from decide_eq_true (by omega)]; simp only [addr_fault.j0]; rw [if_pos trivial]

theorem valid_eq {a : Int} {n k : Nat} (h0 : 0 ≤ a) (h1 : a < 4294967296) (hn : n ≤ 32) (hk : 1 ≤ k) :
    addr_Valid.f k a n = some (decide (a % (sz n : Int) = 0)) := by
  unfold addr_Valid.f
  rw [fault_eq h0 h1 hn hk, Option.bind_some]
  by_cases h : a % (sz n : Int) = 0
  · rw [if_pos h, decide_eq_true h]; rfl
  · rw [if_neg h, decide_eq_false h]; rfl

theorem last_eq {a : Int} {n : Nat} (h0 : 0 ≤ a) (h1 : a < 4294967296) (hn : n ≤ 32) (hd : a % (sz n : Int) = 0) :
    addr_last.f a n = some (a + sz n - 1) := by
  have hle := sz_le n
  have hp := sz_pos n
  unfold addr_last.f
  rw [mask_all n (by omega), Option.bind_some, xor_all n (by omega), Go.u32_or _ _ h0 h1 (by omega) (by omega)]
  have e : (((sz n - 1 : Nat) : Int)).toNat = sz n - 1 := by omega
  have hd' : a.toNat % sz n = 0 := by have := mod_sz n h0; omega
  have := Go.nat_join (32 - n) a.toNat (sz n - 1) hd' (by unfold sz at *; omega)
  rw [e, this]
  congr 1
  omega

theorem and_high (x k : Nat) (hk : k ≤ 32) (hx : x < 4294967296) : x &&& (4294967296 - 2 ^ k) = x / 2 ^ k * 2 ^ k := by
  have h1 : x / 2 ^ k * 2 ^ k = (x >>> k) <<< k := by rw [Nat.shiftRight_eq_div_pow, Nat.shiftLeft_eq]
  rw [h1]
  have hp : 0 < 2 ^ k := Nat.two_pow_pos k
  apply Nat.eq_of_testBit_eq
  intro i
  have e : 4294967296 - 2 ^ k = 2 ^ 32 - ((2 ^ k - 1) + 1) := by omega
  have hle : 2 ^ k ≤ 2 ^ 32 := Nat.pow_le_pow_right (by omega) hk
  rw [Nat.testBit_and, e, Nat.testBit_two_pow_sub_succ (by omega), Nat.testBit_two_pow_sub_one, Nat.testBit_shiftLeft, Nat.testBit_shiftRight]
  by_cases hi : k ≤ i
  · rw [show k + (i - k) = i from by omega]
    by_cases h32 : i < 32
    · simp [hi, h32]
    · have : x.testBit i = false := Nat.testBit_lt_two_pow (by
        have : 2 ^ 32 ≤ 2 ^ i := Nat.pow_le_pow_right (by omega) (by omega)
        omega)
      simp [this]
  · simp [hi]; omega
theorem and_mask {x : Int} {n : Nat} (h0 : 0 ≤ x) (h1 : x < 4294967296) (hn : n ≤ 32) : Go.bits .and .u32 x ((4294967296 - sz n : Nat) : Int) = x - x % (sz n : Int) := by
  have hp := sz_pos n
  have hle := sz_le n
  rw [Go.u32_and _ _ h0 h1 (by omega) (by omega), Int.toNat_natCast]
  have := and_high x.toNat (32 - n) (by omega) (by omega)
  unfold sz at *
  rw [this]
  have e := Nat.div_add_mod x.toNat (2 ^ (32 - n))
  have e2 := mod_sz n h0
  unfold sz at e2
  have e3 : x.toNat / 2 ^ (32 - n) * 2 ^ (32 - n) = x.toNat - x.toNat % 2 ^ (32 - n) := by rw [Nat.mul_comm]; omega
  rw [e3, ← e2]
  have := Nat.mod_le x.toNat (2 ^ (32 - n))
  omega
theorem sz_sizeF {l : Int} (h0 : 0 ≤ l) (h1 : l ≤ 32) : (sz l.toNat : Int) = sizeF l := by
  unfold sz sizeF
  rw [show (32 - l).toNat = 32 - l.toNat from by omega]
  push_cast; rfl
/-- a subnet's span -/
theorem span_all (a l : Int) (h0 : 0 ≤ a) (h1 : a < 4294967296) : addr_Span.f 1 a l = some (if l < 0 ∨ 32 < l then (0, 0, 11) else if a % sizeF l = 0 then (a, a + sizeF l - 1, 0) else (0, 0, 12)) := by
  unfold addr_Span.f
  by_cases h : l < 0 ∨ 32 < l
  · rw [if_pos h, fault_bad h (by omega), Option.bind_some, if_neg (by decide)]
  · rw [if_neg h]
    obtain ⟨n, rfl⟩ : ∃ n : Nat, l = n := ⟨l.toNat, by omega⟩
    rw [fault_eq h0 h1 (by omega) (by omega), Option.bind_some, ← sz_sizeF (by omega) (by omega), Int.toNat_natCast]
    by_cases hd : a % (sz n : Int) = 0
    · rw [if_pos hd, if_pos rfl, if_pos hd, last_eq h0 h1 (by omega) hd, Option.bind_some]
    · rw [if_neg hd, if_neg hd, if_neg (by decide)]
/-- which addresses a subnet contains -/
theorem contains_all (b l a : Int) (hb0 : 0 ≤ b) (hb1 : b < 4294967296) (hl0 : 0 ≤ l) (hl1 : l ≤ 32) (ha0 : 0 ≤ a) (ha1 : a < 4294967296) (hd : b % sizeF l = 0) :
    addr_Contains.f 1 b l a = some (decide (b ≤ a ∧ a < b + sizeF l)) := by
  obtain ⟨n, rfl⟩ : ∃ n : Nat, l = n := ⟨l.toNat, by omega⟩
  have hsz := sz_sizeF (l := (n : Int)) hl0 hl1
  rw [Int.toNat_natCast] at hsz
  rw [← hsz] at hd ⊢
  have hp := sz_pos n
  unfold addr_Contains.f
  rw [valid_eq hb0 hb1 (by omega) (by omega), Option.bind_some, if_pos (by rw [decide_eq_true hd]), mask_all n (by omega), Option.bind_some, and_mask ha0 ha1 (by omega)]
  generalize hz : (sz n : Int) = z at *
  have hz0 : 0 < z := by omega
  congr 1
  have key : a - a % z = b ↔ (b ≤ a ∧ a < b + z) := by
    have e1 := Int.emod_nonneg a (show z ≠ 0 by omega)
    have e2 := Int.emod_lt_of_pos a hz0
    constructor
    · intro e; omega
    · rintro ⟨c1, c2⟩
      have e3 : a % z = a - b := by
        have : a % z = (a - b) % z := by
          rw [Int.sub_emod, hd]; simp
        rw [this]; exact Int.emod_eq_of_lt (by omega) (by omega)
      omega
  by_cases c : b ≤ a ∧ a < b + z
  · rw [decide_eq_true c, key.2 c]; simp
  · rw [decide_eq_false c]
    have : ¬ a - a % z = b := fun e => c (key.1 e)
    simpa using this
end Go.Proofs.Ytgabkifojnkbkaa.Ip
