/- What masks, lengths and block ends of 32-bit addresses come to, over the printed functions addr.mask, addr.fault, addr.Valid, addr.last and weftref1.size. No condition but that the numbers are addresses and lengths from 0 to 32. -/
import Derived.Test.YtncpcjphljfcpaaPNmmx
import Derived.Laws.BitsAllLaws
namespace Go.Proofs.Ytncpcjphljfcpaa.Pure
open Go.RowKit Go.Proofs.Ytncpcjphljfcpaa.PNmm Go.Proofs.YtncpcjphljfcpaaW.PrintWords Go.Proofs.YtncpcjphljfcpaaW.PrintLast Go.Proofs.YtncpcjphljfcpaaW.PrintMore

theorem w64 {n : Int} (h0 : -9223372036854775808 ≤ n) (h1 : n ≤ 9223372036854775807) : wrap64 n = n := by
  unfold wrap64; omega

/-- the size of a block of length n -/
def sz (n : Nat) : Nat := 2 ^ (32 - n)
theorem sz_pos (n : Nat) : 0 < sz n := Nat.two_pow_pos _
theorem sz_succ {n : Nat} (h : n < 32) : sz n = 2 * sz (n + 1) := by
  unfold sz
  rw [show 32 - n = (32 - (n + 1)) + 1 from by omega, Nat.pow_succ]; omega
theorem sz_le (n : Nat) : sz n ≤ 4294967296 := by
  unfold sz
  have : 2 ^ (32 - n) ≤ 2 ^ 32 := Nat.pow_le_pow_right (by omega) (by omega)
  omega

theorem mask_all : ∀ n : Nat, n < 33 → addr_mask.f (n : Int) = some ((4294967296 - sz n : Nat) : Int) := by decide +kernel
theorem xor_all : ∀ n : Nat, n < 33 → Go.bits .xor .u32 4294967295 ((4294967296 - sz n : Nat) : Int) = ((sz n - 1 : Nat) : Int) := by decide +kernel

theorem mod_sz {a : Int} (n : Nat) (h0 : 0 ≤ a) : ((a.toNat % sz n : Nat) : Int) = a % (sz n : Int) := by
  have : ((a.toNat : Nat) : Int) = a := Int.toNat_of_nonneg h0
  rw [Int.natCast_emod, this]

theorem fault_eq {a : Int} {n k : Nat} (h0 : 0 ≤ a) (h1 : a < 4294967296) (hn : n ≤ 32) (hk : 1 ≤ k) :
    addr_fault.f k a n = some (if a % (sz n : Int) = 0 then 0 else 12) := by
  obtain ⟨k, rfl⟩ : ∃ m, k = m + 1 := ⟨k - 1, by omega⟩
  have hle := sz_le n
  have hp := sz_pos n
  unfold addr_fault.f
  rw [if_neg (by omega), show decide ((n : Int) > 32) = false from decide_eq_false (by omega)]
  simp only [addr_fault.j0]
  rw [if_neg (by decide), mask_all n (by omega), Option.bind_some, Go.u32_andNot _ _ h0 h1 (by omega) (by omega)]
  have e : 4294967295 - (((4294967296 - sz n : Nat) : Int)).toNat = sz n - 1 := by omega
  rw [e]
  have hm : a.toNat &&& (sz n - 1) = a.toNat % sz n := Nat.and_two_pow_sub_one_eq_mod _ _
  rw [hm, mod_sz n h0]
  split <;> rfl

theorem fault_bad {a m : Int} {k : Nat} (hm : m < 0 ∨ 32 < m) (hk : 1 ≤ k) : addr_fault.f k a m = some 11 := by
  obtain ⟨k, rfl⟩ : ∃ m, k = m + 1 := ⟨k - 1, by omega⟩
  unfold addr_fault.f
  by_cases h : m < 0
  · rw [if_pos h]; simp only [addr_fault.j0]; rw [if_pos trivial]
  · rw [if_neg h, show decide (m > 32) = true from decide_eq_true (by omega)]; simp only [addr_fault.j0]; rw [if_pos trivial]

theorem valid_eq {a : Int} {n k : Nat} (h0 : 0 ≤ a) (h1 : a < 4294967296) (hn : n ≤ 32) (hk : 1 ≤ k) :
    addr_Valid.f k a n = some (decide (a % (sz n : Int) = 0)) := by
  unfold addr_Valid.f
  rw [fault_eq h0 h1 hn hk, Option.bind_some]
  by_cases h : a % (sz n : Int) = 0
  · rw [if_pos h, decide_eq_true h]; rfl
  · rw [if_neg h, decide_eq_false h]; rfl

theorem last_eq {a : Int} {n : Nat} (h0 : 0 ≤ a) (h1 : a < 4294967296) (hn : n ≤ 32) (hd : a % (sz n : Int) = 0) :
    addr_last.f a n = some (a + sz n - 1) := by
  have hle := sz_le n
  have hp := sz_pos n
  unfold addr_last.f
  rw [mask_all n (by omega), Option.bind_some, xor_all n (by omega), Go.u32_or _ _ h0 h1 (by omega) (by omega)]
  have e : (((sz n - 1 : Nat) : Int)).toNat = sz n - 1 := by omega
  have hd' : a.toNat % sz n = 0 := by have := mod_sz n h0; omega
  have := Go.nat_join (32 - n) a.toNat (sz n - 1) hd' (by unfold sz at *; omega)
  rw [e, this]
  congr 1
  omega

theorem size_l0 (j : Nat) : ∀ (x : Int) (k : Nat), j ≤ 32 → j < k → 0 ≤ x → x * 2 ^ j ≤ 4294967296 → weftref1_size.l0 k x (32 - j) = some (x * 2 ^ j) := by
  induction j with
  | zero =>
    intro x k _ hk h0 hx
    obtain ⟨k, rfl⟩ : ∃ m, k = m + 1 := ⟨k - 1, by omega⟩
    simp only [weftref1_size.l0]
    rw [if_neg (by omega)]; simp
  | succ j ih =>
    intro x k hj hk h0 hx
    obtain ⟨k, rfl⟩ : ∃ m, k = m + 1 := ⟨k - 1, by omega⟩
    have e : x * 2 ^ (j + 1) = (2 * x) * 2 ^ j := by rw [Int.pow_succ]; rw [Int.mul_comm 2 x, Int.mul_assoc, Int.mul_comm 2]
    have hone : (0 : Int) < 2 ^ j := Int.pow_pos (by omega)
    have hb : 2 * x ≤ 4294967296 := by
      have : (2 * x) * 1 ≤ (2 * x) * 2 ^ j := Int.mul_le_mul_of_nonneg_left (by omega) (by omega)
      omega
    simp only [weftref1_size.l0]
    rw [if_pos (by omega), w64 (by omega) (by omega), w64 (by omega) (by omega), show ((32 : Int) - ((j + 1 : Nat) : Int)) + 1 = 32 - (j : Int) from by omega, e]
    exact ih (2 * x) k (by omega) (by omega) (by omega) (by rw [← e]; exact hx)

theorem size_eq {n k : Nat} (hn : n ≤ 32) (hk : 33 ≤ k) : weftref1_size.f k n = some (sz n : Int) := by
  unfold weftref1_size.f
  have h := size_l0 (32 - n) 1 k (by omega) (by omega) (by omega) (by have := sz_le n; rw [Int.one_mul]; show ((2 : Nat) : Int) ^ (32 - n) ≤ _; rw [← Int.natCast_pow]; exact Int.ofNat_le.mpr this)
  rw [show (32 : Int) - ((32 - n : Nat) : Int) = (n : Int) from by omega] at h
  rw [h, Int.one_mul]
  show some (((2 : Nat) : Int) ^ (32 - n)) = some (((2 ^ (32 - n) : Nat)) : Int)
  rw [← Int.natCast_pow]

theorem begun_eq : weftlaw1_begun.f 20 = some true := by decide +kernel
theorem begun_ev : Ev (fun k => weftlaw1_begun.f k) true := Ev.of (weftlaw1_begun.mono) begun_eq
end Go.Proofs.Ytncpcjphljfcpaa.Pure
