/- The reference's pool in memory: two lists of ints. Conditions: none. -/
import Derived.Test.YtebnlhjakiipjaaPoN
set_option linter.unusedVariables false
set_option linter.unusedSimpArgs false
namespace Go.Proofs.Ytebnlhjakiipjaa.Pl
open Go.RowKit Go.Maps Go.Proofs.YtebnlhjakiipjaaW.PrintWords Go.Proofs.YtebnlhjakiipjaaW.PrintMore Go.Proofs.Ytebnlhjakiipjaa.PPlf
theorem info3 : (Try.prog.info? 3).map (fun i => (i.zero, i.size, i.bytes)) = some (some (.int .i64 0), 1, 8) := by kernel_rfl
/-- a row of the caller's own that holds ints -/
def IRow (w : World) (base : Nat) (v : Value) (xs : List Int) : Prop := w.ownsRow base 3 1 v xs.length (xs.map (Value.int .i64))
section
variable {w w1 : World} {base : Nat} {v : Value} {xs : List Int}
theorem IRow.C (h : IRow w base v xs) : ∃ A c, v = .slice A xs.length c ∧ xs.length ≤ c ∧ Kd.C (Kd.int .i64) w A xs.length xs := by
  obtain ⟨A, c, e, hC⟩ := own_reads_row h (Kd.reps_scalar (enc := Value.int .i64) xs) rfl
  subst e
  exact ⟨A, c, rfl, own_cap h, hC⟩
theorem IRow.low (h : IRow w base v xs) : IRow w 0 v xs := own_less h (Nat.zero_le _)
theorem IRow.step (h : IRow w base v xs) (hb : ∀ k, v.ownBlock = some k → w1.heap[k]? = w.heap[k]?) : IRow w1 base v xs := own_move h hb
theorem IRow.lt (h : IRow w base v xs) : ∀ k, v.ownBlock = some k → base ≤ k ∧ k < w.heap.size := fun k hk => ⟨own_base h k hk, own_lt h k hk⟩
theorem IRow.below (h : IRow w base v xs) (hb : Below w.heap.size w w1) : IRow w1 base v xs := h.step fun k hk => hb.block k (h.lt k hk).2
theorem IRow.nil (w : World) (base : Nat) : IRow w base (.slice none 0 0) [] := own_nil _ _ _ _
theorem IRow.turn {F : List Nat} (h : IRow w base v xs) (ht : Turn w w1 F) (hF : ∀ k, v.ownBlock = some k → k ∉ F) : IRow w1 base v xs := h.step fun k hk => ht.block k (h.lt k hk).2 (hF k hk)
theorem IRow.sl (h : IRow w base v xs) : ∃ A c, v = .slice A xs.length c := by
  obtain ⟨A, c, e, _⟩ := h.C
  exact ⟨A, c, e⟩
theorem IRow.at_ (h : IRow w base v xs) {i : Nat} (hi : i < xs.length) : ∃ g c, v = .slice (some ⟨g, 0, none⟩) xs.length c ∧ w.cell? ⟨g, i, none⟩ = some (.int .i64 xs[i]) := by
  obtain ⟨g, c, e, _⟩ := World.ownsRow.form h (by omega)
  subst e
  refine ⟨g, c, rfl, ?_⟩
  have := World.ownsRow.cells (g := g) h rfl i (.int .i64 xs[i]) (by simp [hi])
  rw [add_plain] at this
  simpa using this
/-- one element more -/
theorem IRow.app1 (h : IRow w base v xs) (hb : base ≤ w.heap.size) (x : Int) (hlen : xs.length < 8796093022207) :
    ∃ v' w', (Builtin.append_ #[72, 72] 72 #[v, .slice (some ⟨w.heap.size, 0, none⟩) 1 1]).run Try.prog (w.alloc (.cells #[.int .i64 x] 3)) = .ok v' w' ∧ IRow w' base v' (xs ++ [x]) ∧ Below base w w' ∧ w.grownBy w' v.ownBlock ∧ ∀ k, v'.ownBlock = some k → v.ownBlock = some k ∨ w.heap.size ≤ k := by
  obtain ⟨i, hi, hzz⟩ := Option.map_eq_some_iff.1 info3
  simp only [Prod.mk.injEq] at hzz
  obtain ⟨hz, hs, hbb⟩ := hzz
  obtain ⟨v', w', h1, h2, h3, h4⟩ := app_any (w.alloc (.cells #[.int .i64 x] 3)) (t := 72) (e := 3) (news := [.int .i64 x]) Try.underlying72 hi hz hs hbb rfl (by omega) (World.ownsRow.alloc h _) (by rw [World.size_alloc]; omega) (some ⟨w.heap.size, 0, none⟩) 1 1 rfl (.inr ⟨_, rfl, World.news_of_block (cs := #[.int .i64 x]) (t := 3) (fr := (0, 0)) (heap_alloc_new w _)⟩) (fun u hu => by rw [List.mem_singleton] at hu; subst hu; rfl) (by unfold maxLen; omega) (by omega)
  have hg : w.grownBy w' v.ownBlock := World.grownBy.trans (World.grownBy_alloc w _ _) ⟨h3.os, h3.tape, h3.output, h3.size, h3.block⟩
  refine ⟨v', w', h1, ?_, ?_, hg, fun k hk => ?_⟩
  · unfold IRow
    rw [List.length_append, List.map_append]
    exact h2
  · exact ⟨hg.os, hg.tape, hg.output, hg.size, fun k hk => hg.block k (by omega) (fun e => by have := own_base h k e.symm; omega)⟩
  · rcases h4 with h4 | h4
    · exact .inl (h4 ▸ hk)
    · rw [h4] at hk; injection hk with hk
      have : (w.alloc (.cells #[.int .i64 x] 3)).heap.size = w.heap.size + 1 := by simp
      exact .inr (by omega)
end
/-- the reference's pool: what New was given, the kept, the taken -/
structure RS (w : World) (b : Nat) (vk vt : Value) (M : Pm) (K T : List Int) : Prop where
  blk : w.heap[b]? = some (.cells #[.int .u32 M.na, .int .i64 M.nl, .int .i64 M.s, .int .i64 (M.mn * sizeF M.s), .int .i64 (M.mx * sizeF M.s), vk, vt] 74 (0, 0))
  rk : IRow w 0 vk K
  rt : IRow w 0 vt T
  ap : ∀ k, vk.ownBlock = some k → vt.ownBlock ≠ some k
def RF (b : Nat) (vk vt : Value) : List Nat := b :: (vk.ownBlock.toList ++ vt.ownBlock.toList)
section
variable {w w1 : World} {b : Nat} {vk vt : Value} {M : Pm} {K T : List Int}
theorem RS.lt (h : RS w b vk vt M K T) : ∀ k, k ∈ RF b vk vt → k < w.heap.size := by
  intro k hk
  simp only [RF, List.mem_cons, List.mem_append, Option.mem_toList, Option.mem_def] at hk
  rcases hk with rfl | hk | hk
  · exact blk_lt h.blk
  · exact (h.rk.lt k hk).2
  · exact (h.rt.lt k hk).2
theorem RS.step (h : RS w b vk vt M K T) (hb : ∀ k, k ∈ RF b vk vt → w1.heap[k]? = w.heap[k]?) : RS w1 b vk vt M K T :=
  ⟨(hb b (by simp [RF])).trans h.blk, h.rk.step (fun k hk => hb k (by simp [RF, hk])), h.rt.step (fun k hk => hb k (by simp [RF, hk])), h.ap⟩
theorem RS.below (h : RS w b vk vt M K T) (hb : Below w.heap.size w w1) : RS w1 b vk vt M K T := h.step fun k hk => hb.block k (h.lt k hk)
/-- the block is of no row -/
theorem RS.nb (h : RS w b vk vt M K T) : vk.ownBlock ≠ some b ∧ vt.ownBlock ≠ some b :=
  ⟨fun e => own_ne_block h.rk h.blk (by decide) e.symm, fun e => own_ne_block h.rt h.blk (by decide) e.symm⟩
end
end Go.Proofs.Ytebnlhjakiipjaa.Pl
