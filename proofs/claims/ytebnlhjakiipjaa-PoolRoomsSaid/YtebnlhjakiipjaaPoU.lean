/- How many Take can still give, by counting the row; one pool and a row of prefixes beside it. No condition beyond what a pool is made of. -/
import Derived.Test.YtebnlhjakiipjaaPaF
set_option linter.unusedVariables false
set_option linter.unusedSimpArgs false
namespace Go.Proofs.Ytebnlhjakiipjaa.Pl
open Go.RowKit Go.Maps Go.Proofs.YtebnlhjakiipjaaW.PrintWords Go.Proofs.YtebnlhjakiipjaaW.PrintMore Go.Proofs.Ytebnlhjakiipjaa.PPlf
theorem filter_rise {l : List Int} {p : Int → Bool} (h : l.Pairwise (· < ·)) : (l.filter p).Pairwise (· < ·) := h.sublist List.filter_sublist
theorem len_parts (l : List Int) (p : Int → Bool) : (l.filter p).length + (l.filter (fun x => !p x)).length = l.length := by
  induction l with
  | nil => rfl
  | cons x l ih =>
    rw [List.filter_cons, List.filter_cons]
    cases h : p x
    · simp only [Bool.not_false, if_true, Bool.false_eq_true, if_false, List.length_cons]; omega
    · simp only [Bool.not_true, if_true, Bool.false_eq_true, if_false, List.length_cons]; omega
theorem upto_len {a b : Int} (h : a ≤ b + 1) : ((upto a b).length : Int) = b + 1 - a := by
  unfold upto
  rw [List.length_map, List.length_range]; omega
/-- free in the row -/
def isFree (M : Pm) (L : List Int) (n : Int) : Bool := !(decide (n ∈ M.kept) || decide (n ∈ L))
def freeN (M : Pm) (L : List Int) : Nat := ((upto M.mn M.mx).filter (isFree M L)).length
theorem roomL_eq {M : Pm} {L : List Int} (hM : MOk M) (hr : L.Pairwise (· < ·)) : roomL M L = (freeN M L : Int) := by
  have h1 := len_parts (upto M.mn M.mx) (fun x => decide (x ∈ L))
  have h2 := len_parts ((upto M.mn M.mx).filter (fun x => !decide (x ∈ L))) (fun x => decide (x ∈ M.kept))
  have e1 : (upto M.mn M.mx).filter (fun x => decide (x ∈ L)) = L.filter (fun x => decide (M.mn ≤ x) && decide (x ≤ M.mx)) :=
    rise_ext (filter_rise (upto_pair _ _)) (filter_rise hr) (fun x => by
      rw [List.mem_filter, List.mem_filter, upto_mem]
      simp only [decide_eq_true_eq, Bool.and_eq_true]
      exact ⟨fun h => ⟨h.2, h.1⟩, fun h => ⟨h.2, h.1⟩⟩)
  have e2 : ((upto M.mn M.mx).filter (fun x => !decide (x ∈ L))).filter (fun x => decide (x ∈ M.kept)) = (M.kept.filter (fun x => !decide (x ∈ L))).filter (fun x => decide (M.mn ≤ x) && decide (x ≤ M.mx)) :=
    rise_ext (filter_rise (filter_rise (upto_pair _ _))) (filter_rise (filter_rise hM.rise.1)) (fun x => by
      rw [List.mem_filter, List.mem_filter, List.mem_filter, List.mem_filter, upto_mem]
      simp only [decide_eq_true_eq, Bool.and_eq_true, Bool.not_eq_true', decide_eq_false_iff_not]
      exact ⟨fun h => ⟨⟨h.2, h.1.2⟩, h.1.1⟩, fun h => ⟨⟨h.2, h.1.2⟩, h.1.1⟩⟩)
  have e3 : ((upto M.mn M.mx).filter (fun x => !decide (x ∈ L))).filter (fun x => !decide (x ∈ M.kept)) = (upto M.mn M.mx).filter (isFree M L) := by
    rw [List.filter_filter]
    congr 1
    funext x
    unfold isFree
    rw [Bool.not_or]
  have h3 := upto_len (a := M.mn) (b := M.mx) (by have := hM.mm; omega)
  unfold roomL cntR freeN
  rw [e1] at h1
  rw [e2, e3] at h2
  omega
theorem free_step {M : Pm} {L L' : List Int} {n : Int} (h0 : M.mn ≤ n) (h1 : n ≤ M.mx) (hk : n ∉ M.kept) (hn : n ∉ L) (h : ∀ x, x ∈ L' ↔ x ∈ L ∨ x = n) : freeN M L = freeN M L' + 1 := by
  have hp := len_parts ((upto M.mn M.mx).filter (isFree M L)) (fun x => decide (x = n))
  have e1 : ((upto M.mn M.mx).filter (isFree M L)).filter (fun x => decide (x = n)) = [n] :=
    rise_ext (filter_rise (filter_rise (upto_pair _ _))) (List.pairwise_singleton _ _) (fun x => by
      rw [List.mem_filter, List.mem_filter, upto_mem, List.mem_singleton]
      simp only [decide_eq_true_eq]
      constructor
      · exact fun h => h.2
      · rintro rfl
        refine ⟨⟨⟨h0, h1⟩, ?_⟩, rfl⟩
        unfold isFree; simp [hk, hn])
  have e2 : ((upto M.mn M.mx).filter (isFree M L)).filter (fun x => !decide (x = n)) = (upto M.mn M.mx).filter (isFree M L') := by
    rw [List.filter_filter]
    congr 1
    funext x
    unfold isFree
    have := h x
    by_cases c1 : x ∈ L
    · simp [c1, this.2 (.inl c1)]
    · by_cases c2 : x = n
      · simp [c2, (h n).2 (.inr rfl)]
      · have c3 : x ∉ L' := fun h => (this.1 h).elim c1 c2
        simp [c1, c2, c3]
  rw [e1, e2] at hp
  unfold freeN
  rw [List.length_singleton] at hp
  omega
theorem takeF_some {M : Pm} {L : List Int} {n : Int} (h : takeF M L = some n) : M.mn ≤ n ∧ n ≤ M.mx ∧ n ∉ M.kept ∧ n ∉ L := by
  have h1 := List.mem_of_find?_eq_some h
  have h2 := List.find?_some h
  rw [upto_mem] at h1
  simp only [Bool.not_eq_true', Bool.or_eq_false_iff, decide_eq_false_iff_not] at h2
  exact ⟨h1.1, h1.2, h2.1, h2.2⟩
theorem takeF_low {M : Pm} {L : List Int} {n : Int} (h : takeF M L = some n) : ∀ x, M.mn ≤ x → x < n → x ∈ M.kept ∨ x ∈ L := fun x h0 h1 => by
  have hs := takeF_some h
  refine Classical.byContradiction fun hc => ?_
  have hk : x ∉ M.kept := fun h => hc (.inl h)
  have hl : x ∉ L := fun h => hc (.inr h)
  have e : upto M.mn M.mx = upto M.mn x ++ upto (x + 1) M.mx := by
    refine rise_ext (upto_pair _ _) ?_ (fun y => ?_)
    · rw [List.pairwise_append]
      exact ⟨upto_pair _ _, upto_pair _ _, fun a ha b hb => by rw [upto_mem] at ha hb; omega⟩
    · rw [List.mem_append, upto_mem, upto_mem, upto_mem]; omega
  unfold takeF at h
  rw [e, List.find?_append] at h
  cases h4 : (upto M.mn x).find? (fun n => !(decide (n ∈ M.kept) || decide (n ∈ L))) with
  | none =>
    have := List.find?_eq_none.1 h4 x (by rw [upto_mem]; omega)
    simp [hk, hl] at this
  | some y =>
    rw [h4] at h
    have hy := List.mem_of_find?_eq_some h4
    rw [upto_mem] at hy
    have : y = n := by simpa using h
    omega
theorem takeF_none {M : Pm} {L : List Int} (h : takeF M L = none) : ∀ x, M.mn ≤ x → x ≤ M.mx → x ∈ M.kept ∨ x ∈ L := fun x h0 h1 => by
  have := List.find?_eq_none.1 h x (by rw [upto_mem]; omega)
  simp only [Bool.not_eq_true', Bool.not_eq_false, Bool.or_eq_true, decide_eq_true_eq] at this
  exact this
theorem takeF_zero {M : Pm} {L : List Int} : takeF M L = none ↔ freeN M L = 0 := by
  constructor
  · intro h
    unfold freeN
    rw [List.length_eq_zero_iff, List.filter_eq_nil_iff]
    exact fun x hx => List.find?_eq_none.1 h x hx
  · intro h
    unfold freeN at h
    rw [List.length_eq_zero_iff, List.filter_eq_nil_iff] at h
    exact List.find?_eq_none.2 h
/-- a pool of the call's own -/
structure Sg (w0 : World) (p : Nat) (M : Pm) (L : List Int) (F : List Nat) (w : World) : Prop where
  p1 : Po w p M L F
  l1 : Lok M L
  n1 : ∀ k, k ∈ F → w0.heap.size ≤ k
  bel : Below w0.heap.size w0 w
section
variable {w0 w w' : World} {p : Nat} {M : Pm} {L : List Int} {F : List Nat} {P : List Int → Prop}
theorem Sg.below (h : Sg w0 p M L F w) (hb : Below w.heap.size w w') : Sg w0 p M L F w' := ⟨h.p1.below hb, h.l1, h.n1, below_step h.bel hb⟩
theorem Sg.left (h : Sg w0 p M L F w) (hl : Left w p M F P w') : ∃ L' F', Sg w0 p M L' F' w' ∧ P L' ∧ Turn w w' F := by
  obtain ⟨L', F', h1, h2, h3, h4, h5⟩ := hl
  refine ⟨L', F', ⟨h1, h2, fun k hk => ?_, h.bel.trans (h4.below h.bel.size h.n1)⟩, h3, h4⟩
  rcases h5 k hk with h6 | h6
  · exact h.n1 k h6
  · have := h.bel.size; omega
/-- a block of prefixes is none of the pool's -/
theorem Po.ne27 (h : Po w p M L F) {k : Nat} {cs : Array Value} (hk : w.heap[k]? = some (.cells cs 27 (0, 0))) : k ∉ F := fun hf => by
  obtain ⟨vk, bm, vr, R, h1, _, rfl⟩ := h
  simp only [PlF, List.mem_cons, List.mem_append, Option.mem_toList, Option.mem_def] at hf
  rcases hf with rfl | rfl | hf | hf
  · rw [h1.blk] at hk; exact absurd (Obj.cells.inj (Option.some.inj hk)).2.1 (by decide)
  · obtain ⟨es, clock, hm⟩ := h1.mp.map
    rw [hm] at hk; cases hk
  · obtain ⟨c, hc⟩ := own_typed h1.rk k hf
    rw [hc] at hk; exact absurd (Obj.cells.inj (Option.some.inj hk)).2.1 (by decide)
  · obtain ⟨c, hc⟩ := own_typed h1.rr k hf
    rw [hc] at hk; exact absurd (Obj.cells.inj (Option.some.inj hk)).2.1 (by decide)
theorem Sg.row (h : Sg w0 p M L F w) {base : Nat} {v : Value} {xs : List S27} (hr : Row w base v xs) (ht : Turn w w' F) : Row w' base v xs :=
  Row.step hr (fun k hk => ht.block k (own_lt hr k hk) (by obtain ⟨c, hc⟩ := own_typed hr k hk; exact h.p1.ne27 hc))
/-- a row of prefixes has grown -/
theorem Sg.grow (h : Sg w0 p M L F w) {v : Value} {xs : List S27} {base : Nat} (hr : Row w base v xs) (hb : w0.heap.size ≤ base) (hg : w.grownBy w' v.ownBlock) : Sg w0 p M L F w' := by
  refine ⟨?_, h.l1, h.n1, h.bel.grown hg h.bel.size (fun k hk => Nat.le_trans hb (own_base hr k hk))⟩
  exact h.p1.turn (G := v.ownBlock.toList) (Turn.of_grown hg (fun b hb => by simp [hb])) (fun k hk hf => by
    have hk2 : v.ownBlock = some k := by simpa using hf
    obtain ⟨c, hc⟩ := own_typed hr k hk2
    exact h.p1.ne27 hc hk)
end
end Go.Proofs.Ytebnlhjakiipjaa.Pl
