/- The document's answer walked: New, Add, Del. Conditions: the numbers are of their kinds; there is a free address. -/
import Derived.Test.YtgabkifojnkbkaaIpmR
set_option linter.unusedVariables false
set_option linter.unusedSimpArgs false
namespace Go.Proofs.Ytgabkifojnkbkaa.Ip
open Go.RowKit Go.Maps Go.WideMaps Go.MapKept Go.Proofs.YtgabkifojnkbkaaW.PrintWords Go.Proofs.Ytgabkifojnkbkaa.PIpf
/-- 2^n -/
theorem pow_lt {n : Nat} (h : n ≤ 31) : (2 : Int) ^ n ≤ 2147483648 := by
  have : ∀ m : Nat, m ≤ 31 → (2 : Int) ^ m ≤ 2147483648 := by decide
  exact this n h
set_option maxHeartbeats 8000000 in
set_option maxRecDepth 100000 in
theorem rnew_len (w : World) (a l : Int) (hbad : l < 1 ∨ l > 30) :
    Calls Try.prog 35 #[.agg #[.int .u32 a, .int .i64 l]] w fun e w' => e = .returned (.tuple #[.pointer none, .int .i64 151]) ∧ Below w.heap.size w w' := by
  go_enter Try.func35, Try.ntmps35
  go_wp2
  all_goals first
    | (go_ret2; exact ⟨rfl, below_alloc (Below.refl _ _) _⟩)
    | (exfalso; omega)
def sizeF (l : Int) : Int := 2 ^ (32 - l).toNat
def rnewM (a l : Int) : RfM := ⟨a, sizeF l, 1, []⟩
set_option maxHeartbeats 8000000 in
set_option maxRecDepth 100000 in
theorem rnew (w : World) (a l : Int) (hl0 : 1 ≤ l) (hl1 : l ≤ 30) (ha0 : 0 ≤ a) (ha1 : a < 4294967296) :
    Calls Try.prog 35 #[.agg #[.int .u32 a, .int .i64 l]] w fun e w' => Below w.heap.size w w' ∧
      ((a % sizeF l ≠ 0 ∧ e = .returned (.tuple #[.pointer none, .int .i64 151])) ∨
       (a % sizeF l = 0 ∧ ∃ B, e = .returned (.tuple #[.pointer (some ⟨B, 0, none⟩), .int .i64 0]) ∧ RfS w' B (.slice none 0 0) (rnewM a l) ∧ w.heap.size ≤ B)) := by
  unfold rnewM
  generalize hsz : sizeF l = sz
  have HSZ := Aside0.mk hsz
  clear hsz
  go_enter Try.func35, Try.ntmps35
  go_wp2
  generalize hw1 : w.alloc (.cells #[.int .u32 a, .int .i64 l] 25) = w1
  have kb := blk_new w (.cells #[.int .u32 a, .int .i64 l] 25)
  rw [hw1] at kb
  have k0 : w1.cell? ⟨w.heap.size, 0, none⟩ = some (.int .u32 a) := blk_cell kb 0
  have k1 : w1.cell? ⟨w.heap.size, 1, none⟩ = some (.int .i64 l) := blk_cell kb 1
  have HB1 : Aside0 (Below w.heap.size w w1) := ⟨hw1 ▸ below_alloc (Below.refl _ _) _⟩
  clear kb hw1
  go_loop [4, 5] (fun vs vi => ∃ (j : Nat), vs = .int .i64 (2 ^ j) ∧ vi = .int .i64 (l + j) ∧ l + j ≤ 32) (fun _ vi => 32 - (intOf vi).toNat)
  case atStart => exact ⟨0, rfl, by simp, by omega⟩
  case round =>
    obtain ⟨j, rfl, rfl, hj⟩ := hrel
    have hp : (2 : Int) ^ j ≤ 2147483648 := pow_lt (by omega)
    have hp0 : (0 : Int) < 2 ^ j := Int.pow_pos (by decide)
    by_cases hlt : l + (j : Int) < 32
    · have hp2 : (2 : Int) ^ (j + 1) = 2 * 2 ^ j := by rw [Int.pow_succ]; omega
      have HP2 := Aside0.mk hp2
      clear hp2
      generalize hx : (2 : Int) ^ j = x at *
      go_wp2
      exact ⟨⟨j + 1, by rw [HP2.out], by rw [show (l + ((j + 1 : Nat) : Int)) = l + j + 1 by omega], by omega⟩, by simp [intOf]; omega⟩
    · have hs : sz = 2 ^ j := by rw [← HSZ.out]; unfold sizeF; congr 1; omega
      rw [← hs]
      rw [← hs] at hp hp0
      clear hs
      have hxn : ¬ sz = 0 := by omega
      have htm : Int.tmod a sz = a % sz := Int.tmod_eq_emod_of_nonneg ha0
      by_cases hz : a % sz = 0
      · have hz' : Int.tmod a sz = 0 := by rw [htm]; exact hz
        clear htm
        go_wp2
        go_ret2
        exact ⟨below_alloc HB1.out _, w1.heap.size, rfl, ⟨blk_new _ _, own_nil _ _ _ _⟩, HB1.out.size⟩
      · have hz' : ¬ Int.tmod a sz = 0 := by rw [htm]; exact hz
        clear htm
        go_wp2
        go_ret2
        exact ⟨HB1.out, rfl⟩
end Go.Proofs.Ytgabkifojnkbkaa.Ip
