/- One pool (a part of PoP, for a claim's bytes). Conditions: what comes in is of its kind. -/
import Derived.Test.YtebnlhjakiipjaaPoN
import Derived.Test.YtebnlhjakiipjaaPaG
set_option linter.unusedVariables false
set_option linter.unusedSimpArgs false
namespace Go.Proofs.Ytebnlhjakiipjaa.Pl
section P0
open Go.RowKit Go.Maps Go.Proofs.YtebnlhjakiipjaaW.PrintWords Go.Proofs.YtebnlhjakiipjaaW.PrintMore Go.Proofs.Ytebnlhjakiipjaa.PPlf
section
variable {w : World} {na nl s lo hi : Int} {A : Option Addr} {kept : List S27} {c : Nat}
theorem SpIn.snd (h : SpIn w na nl s lo hi A kept c) : Calls Try.prog 14 #[.agg #[.int .u32 na, .int .i64 nl, .int .i64 s, .int .u32 lo, .int .u32 hi, .slice A kept.length c]] w fun e w' => e = .returned (.bool (decide (newE na nl s lo hi kept = 0))) ∧ Below w.heap.size w w' :=
  weftlaw10_sound.calls 4000 na nl s lo hi A c kept _ w h.C h.cap (sound_all h.na0 h.na1 h.lo0 h.lo1 h.hi0 h.hi1 h.W)
end
end P0
section P2
open Go.RowKit Go.Maps Go.Proofs.YtebnlhjakiipjaaW.PrintWords Go.Proofs.YtebnlhjakiipjaaW.PrintMore Go.Proofs.Ytebnlhjakiipjaa.PPlf
/-- a pool of the call's own -/
structure Sg (w0 : World) (p : Nat) (M : Pm) (L : List Int) (F : List Nat) (w : World) : Prop where
  p1 : Po w p M L F
  l1 : Lok M L
  n1 : ∀ k, k ∈ F → w0.heap.size ≤ k
  bel : Below w0.heap.size w0 w
section
variable {w0 w w' : World} {p : Nat} {M : Pm} {L : List Int} {F : List Nat} {P : List Int → Prop}
theorem Sg.below (h : Sg w0 p M L F w) (hb : Below w.heap.size w w') : Sg w0 p M L F w' := ⟨h.p1.below hb, h.l1, h.n1, below_step h.bel hb⟩
theorem Sg.left (h : Sg w0 p M L F w) (hl : Left w p M F P w') : ∃ L' F', Sg w0 p M L' F' w' ∧ P L' ∧ Turn w w' F := by
  obtain ⟨L', F', h1, h2, h3, h4, h5⟩ := hl
  refine ⟨L', F', ⟨h1, h2, fun k hk => ?_, h.bel.trans (h4.below h.bel.size h.n1)⟩, h3, h4⟩
  rcases h5 k hk with h6 | h6
  · exact h.n1 k h6
  · have := h.bel.size; omega
/-- a block of prefixes is none of the pool's -/
theorem Po.ne27 (h : Po w p M L F) {k : Nat} {cs : Array Value} (hk : w.heap[k]? = some (.cells cs 27 (0, 0))) : k ∉ F := fun hf => by
  obtain ⟨vk, bm, vr, R, h1, _, rfl⟩ := h
  simp only [PlF, List.mem_cons, List.mem_append, Option.mem_toList, Option.mem_def] at hf
  rcases hf with rfl | rfl | hf | hf
  · rw [h1.blk] at hk; exact absurd (Obj.cells.inj (Option.some.inj hk)).2.1 (by decide)
  · obtain ⟨es, clock, hm⟩ := h1.mp.map
    rw [hm] at hk; cases hk
  · obtain ⟨c, hc⟩ := own_typed h1.rk k hf
    rw [hc] at hk; exact absurd (Obj.cells.inj (Option.some.inj hk)).2.1 (by decide)
  · obtain ⟨c, hc⟩ := own_typed h1.rr k hf
    rw [hc] at hk; exact absurd (Obj.cells.inj (Option.some.inj hk)).2.1 (by decide)
theorem Sg.row (h : Sg w0 p M L F w) {base : Nat} {v : Value} {xs : List S27} (hr : Row w base v xs) (ht : Turn w w' F) : Row w' base v xs :=
  Row.step hr (fun k hk => ht.block k (own_lt hr k hk) (by obtain ⟨c, hc⟩ := own_typed hr k hk; exact h.p1.ne27 hc))
/-- a row of prefixes has grown -/
theorem Sg.grow (h : Sg w0 p M L F w) {v : Value} {xs : List S27} {base : Nat} (hr : Row w base v xs) (hb : w0.heap.size ≤ base) (hg : w.grownBy w' v.ownBlock) : Sg w0 p M L F w' := by
  refine ⟨?_, h.l1, h.n1, h.bel.grown hg h.bel.size (fun k hk => Nat.le_trans hb (own_base hr k hk))⟩
  exact h.p1.turn (G := v.ownBlock.toList) (Turn.of_grown hg (fun b hb => by simp [hb])) (fun k hk hf => by
    have hk2 : v.ownBlock = some k := by simpa using hf
    obtain ⟨c, hc⟩ := own_typed hr k hk2
    exact h.p1.ne27 hc hk)
end
end P2
section P3
open Go.RowKit Go.Maps Go.Proofs.YtebnlhjakiipjaaW.PrintWords Go.Proofs.YtebnlhjakiipjaaW.PrintMore Go.Proofs.Ytebnlhjakiipjaa.PPlf
theorem Row.at_ {w : World} {base : Nat} {v : Value} {xs : List S27} (h : Row w base v xs) {i : Nat} (hi : i < xs.length) : ∃ g c, v = .slice (some ⟨g, 0, none⟩) xs.length c ∧ w.cell? ⟨g, i * 2, none⟩ = some (.int .u32 xs[i].f0) ∧ w.cell? ⟨g, i * 2 + 1, none⟩ = some (.int .i64 xs[i].f1) := by
  obtain ⟨g, c, rfl, _, _⟩ := World.ownsRow.form h (by omega)
  obtain ⟨a, b⟩ := pfC_get xs i xs[i] (List.getElem?_eq_getElem hi)
  have c1 := World.ownsRow.cells h (g := g) rfl _ _ a
  have c2 := World.ownsRow.cells h (g := g) rfl _ _ b
  rw [add_plain] at c1 c2
  exact ⟨g, c, rfl, c1, c2⟩
section
variable {w0 w w' : World} {p : Nat} {M : Pm} {L : List Int} {F : List Nat}
theorem Sg.claimC (hM : MOk M) (h : Sg w0 p M L F w) (a l : Int) (ha0 : 0 ≤ a) (ha1 : a < 4294967296) :
    Calls Try.prog 15 #[.pointer (some ⟨p, 0, none⟩), .agg #[.int .u32 a, .int .i64 l]] w fun e w' => e = .returned (.int .i64 (claimE M L a l)) ∧ ∃ L' F', Sg w0 p M L' F' w' ∧ (∀ x, x ∈ L' ↔ x ∈ L ∨ (claimE M L a l = 0 ∧ x = a / sizeF M.s)) ∧ Turn w w' F := by
  refine (claimP hM h.l1 h.p1 a l ha0 ha1).mono ?_
  rintro e w' ⟨rfl, hl⟩
  exact ⟨rfl, h.left hl⟩
theorem Sg.freeC (hM : MOk M) (h : Sg w0 p M L F w) (a l : Int) (ha0 : 0 ≤ a) (ha1 : a < 4294967296) :
    Calls Try.prog 18 #[.pointer (some ⟨p, 0, none⟩), .agg #[.int .u32 a, .int .i64 l]] w fun e w' => e = .returned (.int .i64 (freeE M L a l)) ∧ ∃ L' F', Sg w0 p M L' F' w' ∧ (∀ x, x ∈ L' ↔ x ∈ L ∧ ¬ (freeE M L a l = 0 ∧ x = a / sizeF M.s)) ∧ Turn w w' F := by
  refine (freeP hM h.l1 h.p1 a l ha0 ha1).mono ?_
  rintro e w' ⟨rfl, hl⟩
  exact ⟨rfl, h.left hl⟩
theorem Sg.takeC (hM : MOk M) (h : Sg w0 p M L F w) :
    Calls Try.prog 17 #[.pointer (some ⟨p, 0, none⟩)] w fun e w' => e = .returned (takeV M (takeF M L)) ∧ ∃ L' F', Sg w0 p M L' F' w' ∧ (∀ x, x ∈ L' ↔ x ∈ L ∨ takeF M L = some x) ∧ Turn w w' F := by
  refine (takeP hM h.l1 h.p1).mono ?_
  rintro e w' ⟨rfl, hl⟩
  exact ⟨rfl, h.left hl⟩
end
end P3
end Go.Proofs.Ytebnlhjakiipjaa.Pl
