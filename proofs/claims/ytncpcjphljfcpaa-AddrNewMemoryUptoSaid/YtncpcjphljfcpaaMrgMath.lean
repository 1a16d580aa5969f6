/- Runs of numbers: rising, apart by more than one; a set has just one such list; what a rising list of spans is joined to. Plain Lean, no program in sight. -/
import Derived.Test.YtncpcjphljfcpaaWWords
namespace Go.Proofs.Ytncpcjphljfcpaa.Runs

def mem (R : List (Int × Int)) (a : Int) : Prop := ∃ r, r ∈ R ∧ r.1 ≤ a ∧ a ≤ r.2
def Apart : Int → List (Int × Int) → Prop
  | _, [] => True
  | b, r :: R => b + 1 < r.1 ∧ r.1 ≤ r.2 ∧ Apart r.2 R
theorem mem_cons {r : Int × Int} {R : List (Int × Int)} {a : Int} : mem (r :: R) a ↔ (r.1 ≤ a ∧ a ≤ r.2) ∨ mem R a := by
  constructor
  · rintro ⟨x, hx, h⟩
    rcases List.mem_cons.1 hx with rfl | hx
    · exact .inl h
    · exact .inr ⟨x, hx, h⟩
  · rintro (h | ⟨x, hx, h⟩)
    · exact ⟨r, by simp, h⟩
    · exact ⟨x, by simp [hx], h⟩
theorem not_mem_nil {a : Int} : ¬ mem [] a := by rintro ⟨_, h, _⟩; cases h
theorem Apart.beyond : ∀ {R : List (Int × Int)} {b a : Int}, Apart b R → mem R a → b + 1 < a
  | [], _, _, _, h => absurd h not_mem_nil
  | r :: R, b, a, hA, h => by
    obtain ⟨h1, h2, h3⟩ := hA
    rcases mem_cons.1 h with h | h
    · omega
    · have := Apart.beyond h3 h; omega
theorem Apart.weaken : ∀ {R : List (Int × Int)} {b c : Int}, Apart b R → c ≤ b → Apart c R
  | [], _, _, _, _ => trivial
  | _ :: _, _, _, h, hc => ⟨by have := h.1; omega, h.2.1, h.2.2⟩
theorem uniq : ∀ {R Q : List (Int × Int)} {b c : Int}, Apart b R → Apart c Q → (∀ a, mem R a ↔ mem Q a) → R = Q
  | [], [], _, _, _, _, _ => rfl
  | [], q :: Q, _, _, _, hQ, h => absurd ((h q.1).2 (mem_cons.2 (.inl ⟨Int.le_refl _, hQ.2.1⟩))) not_mem_nil
  | r :: R, [], _, _, hR, _, h => absurd ((h r.1).1 (mem_cons.2 (.inl ⟨Int.le_refl _, hR.2.1⟩))) not_mem_nil
  | r :: R, q :: Q, _, _, hR, hQ, h => by
    obtain ⟨_, r1, r2⟩ := hR
    obtain ⟨_, q1, q2⟩ := hQ
    have e1 : r.1 = q.1 := by
      have a1 := (h r.1).1 (mem_cons.2 (.inl ⟨Int.le_refl _, r1⟩))
      have a2 := (h q.1).2 (mem_cons.2 (.inl ⟨Int.le_refl _, q1⟩))
      rcases mem_cons.1 a1 with a1 | a1 <;> rcases mem_cons.1 a2 with a2 | a2
      · omega
      · have := r2.beyond a2; omega
      · have := q2.beyond a1; omega
      · have := r2.beyond a2; have := q2.beyond a1; omega
    have e2 : r.2 = q.2 := by
      rcases Int.lt_trichotomy r.2 q.2 with l | l | l
      · have a1 := (h (r.2 + 1)).2 (mem_cons.2 (.inl (by omega)))
        rcases mem_cons.1 a1 with a1 | a1
        · omega
        · have := r2.beyond a1; omega
      · exact l
      · have a1 := (h (q.2 + 1)).1 (mem_cons.2 (.inl (by omega)))
        rcases mem_cons.1 a1 with a1 | a1
        · omega
        · have := q2.beyond a1; omega
    have e : r = q := Prod.ext e1 e2
    subst e
    congr 1
    refine uniq r2 q2 fun a => ?_
    constructor
    · intro m
      have := r2.beyond m
      rcases mem_cons.1 ((h a).1 (mem_cons.2 (.inr m))) with k | k
      · omega
      · exact k
    · intro m
      have := q2.beyond m
      rcases mem_cons.1 ((h a).2 (mem_cons.2 (.inr m))) with k | k
      · omega
      · exact k
/-- joined runs of spans that rise -/
def runsGo : List (Int × Int) → Int → Int → List (Int × Int)
  | [], lo, hi => [(lo, hi)]
  | p :: r, lo, hi => if p.1 ≤ hi + 1 then runsGo r lo (max hi p.2) else (lo, hi) :: runsGo r p.1 p.2
def runsOf : List (Int × Int) → List (Int × Int)
  | [] => []
  | p :: r => runsGo r p.1 p.2
/-- the spans rise from b on -/
def Rise : Int → List (Int × Int) → Prop
  | _, [] => True
  | b, p :: r => b ≤ p.1 ∧ p.1 ≤ p.2 ∧ Rise p.1 r
theorem Rise.weaken : ∀ {R : List (Int × Int)} {b c : Int}, Rise b R → c ≤ b → Rise c R
  | [], _, _, _, _ => trivial
  | _ :: _, _, _, h, hc => ⟨by have := h.1; omega, h.2.1, h.2.2⟩
theorem runsGo_apart : ∀ (l : List (Int × Int)) (lo hi b : Int), Rise lo l → lo ≤ hi → b + 1 < lo → Apart b (runsGo l lo hi)
  | [], lo, hi, b, _, h1, h2 => ⟨h2, h1, trivial⟩
  | p :: r, lo, hi, b, hR, h1, h2 => by
    obtain ⟨a1, a2, a3⟩ := hR
    unfold runsGo
    split
    · exact runsGo_apart r lo _ b (a3.weaken a1) (by omega) h2
    · exact ⟨h2, h1, runsGo_apart r p.1 p.2 hi a3 a2 (by omega)⟩
theorem runsGo_mem : ∀ (l : List (Int × Int)) (lo hi a : Int), Rise lo l → lo ≤ hi → (mem (runsGo l lo hi) a ↔ (lo ≤ a ∧ a ≤ hi) ∨ mem l a)
  | [], lo, hi, a, _, h1 => by unfold runsGo; rw [mem_cons]
  | p :: r, lo, hi, a, hR, h1 => by
    obtain ⟨a1, a2, a3⟩ := hR
    unfold runsGo
    split
    · rw [runsGo_mem r lo _ a (a3.weaken a1) (by omega), mem_cons]
      constructor
      · rintro (h | h)
        · by_cases c : a ≤ hi
          · exact .inl ⟨h.1, c⟩
          · refine .inr (.inl ?_); omega
        · exact .inr (.inr h)
      · rintro (h | h | h)
        · refine .inl ?_; omega
        · refine .inl ?_; omega
        · exact .inr h
    · rw [mem_cons, runsGo_mem r p.1 p.2 a a3 a2, mem_cons]
theorem runsOf_apart {l : List (Int × Int)} {b : Int} (h : Rise (b + 2) l) : Apart b (runsOf l) := by
  cases l with
  | nil => trivial
  | cons p r => exact runsGo_apart r p.1 p.2 b h.2.2 h.2.1 (by have := h.1; omega)
theorem runsOf_mem {l : List (Int × Int)} {b a : Int} (h : Rise b l) : mem (runsOf l) a ↔ mem l a := by
  cases l with
  | nil => exact Iff.rfl
  | cons p r => unfold runsOf; rw [runsGo_mem r p.1 p.2 a h.2.2 h.2.1, mem_cons]
/-- two rising lists of the same union have the same runs -/
theorem runsOf_eq {l m : List (Int × Int)} {b c : Int} (hl : Rise b l) (hm : Rise c m) (h : ∀ a, mem l a ↔ mem m a) : runsOf l = runsOf m :=
  uniq (runsOf_apart (b := b - 2) (hl.weaken (by omega))) (runsOf_apart (b := c - 2) (hm.weaken (by omega))) fun a => by rw [runsOf_mem hl, runsOf_mem hm, h a]
/-- apart things, each with one of the list in it: they are not more -/
theorem count {α β : Type} [DecidableEq β] (inn : β → α → Prop) : ∀ (L : List α) (ps : List β), L.Pairwise (fun x y => ∀ p, ¬ (inn p x ∧ inn p y)) → (∀ x, x ∈ L → ∃ p, p ∈ ps ∧ inn p x) → L.length ≤ ps.length
  | [], _, _, _ => by simp
  | x :: L, ps, hp, h => by
    obtain ⟨h1, h2⟩ := List.pairwise_cons.1 hp
    obtain ⟨p, m, i⟩ := h x (by simp)
    have := count inn L (ps.erase p) h2 fun y hy => by
      obtain ⟨q, qm, qi⟩ := h y (by simp [hy])
      refine ⟨q, (List.mem_erase_of_ne ?_).2 qm, qi⟩
      rintro rfl
      exact h1 y hy q ⟨i, qi⟩
    rw [List.length_erase_of_mem m] at this
    have := List.length_pos_of_mem m
    simp only [List.length_cons]; omega
end Go.Proofs.Ytncpcjphljfcpaa.Runs
