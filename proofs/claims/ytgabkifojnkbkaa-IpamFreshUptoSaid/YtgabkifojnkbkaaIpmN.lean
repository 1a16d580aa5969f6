/- package ipam walked: New. Conditions: the subnet's numbers are of their kinds. -/
import Derived.Test.YtgabkifojnkbkaaIpmD
set_option linter.unusedVariables false
set_option linter.unusedSimpArgs false
namespace Go.Proofs.Ytgabkifojnkbkaa.Ip
open Go.RowKit Go.Maps Go.WideMaps Go.MapKept Go.Proofs.YtgabkifojnkbkaaW.PrintWords Go.Proofs.Ytgabkifojnkbkaa.PIpf
open Go.ChangeMaps (setBlock)
set_option maxHeartbeats 8000000 in
set_option maxRecDepth 100000 in
theorem new_bad (k : Nat) (w : World) (a l r1 r2 r3 : Int) (hsp : addr_Span.f k a l = some (r1, r2, r3)) (hbad : r3 ≠ 0 ∨ l < 1 ∨ l > 30) :
    Calls Try.prog 20 #[.agg #[.int .u32 a, .int .i64 l]] w fun e w' => e = .returned (.tuple #[.pointer none, .int .i64 151]) ∧ Below w.heap.size w w' := by
  have hs := Aside0.mk (fun w' => addr_Span.calls k a l r1 r2 r3 w' hsp)
  go_enter Try.func20, Try.ntmps20
  go_wp2_with (first | (go_at_call 45; refine (hs.out _).mono ?_; rintro e_ w1 ⟨rfl, hb1⟩
                        have kb := blk_below (blk_new w (.cells #[.int .u32 a, .int .i64 l] 25)) hb1
                        have k0 : w1.cell? ⟨w.heap.size, 0, none⟩ = some (.int .u32 a) := blk_cell kb 0
                        have k1 : w1.cell? ⟨w.heap.size, 1, none⟩ = some (.int .i64 l) := blk_cell kb 1
                        have HB1 := Aside0.mk (below_step (below_alloc (Below.refl _ _) _) hb1)
                        clear hb1 kb) | go_in)
  all_goals first
    | (go_ret2; exact ⟨rfl, HB1.out⟩)
    | (exfalso; omega)
def newM (lo len hi : Int) : IpM := ⟨lo, len, lo + 2, hi - 1, lo + 1, fun _ => none, fun _ => none, 0, [], []⟩
theorem NM.made {w : World} {b : Nat} (h : w.heap[b]? = some (.map #[] 0)) : NM w b (fun _ => none) 0 := by
  refine ⟨.map [], ⟨#[], 0, h, ?_, by simp, by simp⟩, rfl, fun s hs => ⟨fun _ => rfl, fun a ha => by cases ha⟩⟩
  obtain ⟨es, clock, h1, F, h2, h3⟩ := World.ownsMap_made (H := Unit) w Try.prog 9 (plainElem Try.prog 23)
  rw [blk_new] at h1
  injection h1 with h1
  injection h1 with h1 h1'
  subst h1 h1'
  exact F
theorem AM.made {w : World} {b : Nat} (h : w.heap[b]? = some (.map #[] 0)) : AM w b (fun _ => none) 0 := by
  refine ⟨.map [], ⟨#[], 0, h, ?_, by simp, by simp⟩, rfl, fun s hs => ⟨fun _ => rfl, fun a ha => by cases ha⟩⟩
  obtain ⟨es, clock, h1, F, h2, h3⟩ := World.ownsMap_made (H := Unit) w Try.prog 23 (plainElem Try.prog 3)
  rw [blk_new] at h1
  injection h1 with h1
  injection h1 with h1 h1'
  subst h1 h1'
  exact F
set_option maxHeartbeats 8000000 in
set_option maxRecDepth 100000 in
theorem new_ok (k : Nat) (w : World) (a l lo hi : Int) (hsp : addr_Span.f k a l = some (lo, hi, 0)) (hl0 : 1 ≤ l) (hl1 : l ≤ 30) (h0 : 0 ≤ lo) (h1 : lo + 3 ≤ hi) (h2 : hi < 4294967296) (hlo : lo = a) :
    Calls Try.prog 20 #[.agg #[.int .u32 a, .int .i64 l]] w fun e w' => ∃ B b1 b2, e = .returned (.tuple #[.pointer (some ⟨B, 0, none⟩), .int .i64 0]) ∧ IpS w' B b1 b2 (.slice none 0 0) (.slice none 0 0) (newM lo l hi) ∧ Below w.heap.size w w' ∧ ∀ b, b ∈ IpF B b1 b2 (.slice none 0 0) (.slice none 0 0) → w.heap.size ≤ b := by
  have hs := Aside0.mk (fun w' => addr_Span.calls k a l lo hi 0 w' hsp)
  have hmm := @run_makeMap Try.prog
  go_enter Try.func20, Try.ntmps20
  go_wp2_with (first | (go_at_call 45; refine (hs.out _).mono ?_; rintro e_ w1 ⟨rfl, hb1⟩
                        have kb := blk_below (blk_new w (.cells #[.int .u32 a, .int .i64 l] 25)) hb1
                        have k0 : w1.cell? ⟨w.heap.size, 0, none⟩ = some (.int .u32 a) := blk_cell kb 0
                        have k1 : w1.cell? ⟨w.heap.size, 1, none⟩ = some (.int .i64 l) := blk_cell kb 1
                        have HB1 := Aside0.mk (below_step (below_alloc (Below.refl _ _) _) hb1)
                        clear hb1 kb) | go_in)
  subst hlo
  go_ret2
  have e1 : (w1.alloc (.map #[] 0)).heap.size = w1.heap.size + 1 := by simp
  have e2 : ((w1.alloc (.map #[] 0)).alloc (.map #[] 0)).heap.size = w1.heap.size + 1 + 1 := by simp
  have n0 := blk_alloc (blk_alloc (blk_new w1 (.map #[] 0)) (.map #[] 0)) (.cells (IpCells (newM lo l hi) w1.heap.size (w1.heap.size + 1) (.slice none 0 0) (.slice none 0 0)) 77)
  have n1 := blk_alloc (blk_new (w1.alloc (.map #[] 0)) (.map #[] 0)) (.cells (IpCells (newM lo l hi) w1.heap.size (w1.heap.size + 1) (.slice none 0 0) (.slice none 0 0)) 77)
  have n2 := blk_new ((w1.alloc (.map #[] 0)).alloc (.map #[] 0)) (.cells (IpCells (newM lo l hi) w1.heap.size (w1.heap.size + 1) (.slice none 0 0) (.slice none 0 0)) 77)
  rw [e1] at n1
  rw [e2] at n2
  have hz := HB1.out.size
  refine ⟨w1.heap.size + 1 + 1, w1.heap.size, w1.heap.size + 1, rfl, ⟨n2, NM.made n0, AM.made n1, by omega, own_nil _ _ _ _, own_nil _ _ _ _⟩, below_alloc (below_alloc (below_alloc HB1.out _) _) _, fun b hb => ?_⟩
  simp only [IpF, Value.ownBlock, Option.toList_none, List.append_nil, List.mem_cons, List.not_mem_nil, or_false] at hb
  omega
end Go.Proofs.Ytgabkifojnkbkaa.Ip
