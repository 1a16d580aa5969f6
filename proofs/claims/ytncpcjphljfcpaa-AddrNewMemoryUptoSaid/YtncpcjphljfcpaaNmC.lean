/- AddrNewMemory: the lists of lists that 'untouched' keeps, phase by phase. Plain words; no condition. -/
import Derived.Test.YtncpcjphljfcpaaNmB
set_option linter.unusedVariables false
set_option linter.unusedSimpArgs false
namespace Go.Proofs.Ytncpcjphljfcpaa.Nm
open Go.RowKit Go.Proofs.YtncpcjphljfcpaaW.PrintWords Go.Proofs.Ytncpcjphljfcpaa.PNmm Go.Proofs.Ytncpcjphljfcpaa.Pure
theorem own_ne {w : World} {v1 v2 : Value} {e1 e2 s1 s2 n1 n2 : Nat} {x1 x2 : List Value} (h1 : w.ownsRow 0 e1 s1 v1 n1 x1) (h2 : w.ownsRow 0 e2 s2 v2 n2 x2) (he : e1 ≠ e2) : ∀ k, v1.ownBlock = some k → v2.ownBlock ≠ some k := fun k hk1 hk2 => by
  obtain ⟨c1, hc1⟩ := own_typed h1 k hk1
  obtain ⟨c2, hc2⟩ := own_typed h2 k hk2
  rw [hc1] at hc2
  exact he (Obj.cells.inj (Option.some.inj hc2)).2.1
/-- lists: the j-th holds X j -/
def Rs (w : World) (T : List Value) (X : Nat → List S32) : Prop := ∀ j v, T[j]? = some v → Row w 0 v (X j)
def Apt (T : List Value) : Prop := T.Pairwise (fun v u => ∀ k, v.ownBlock = some k → u.ownBlock ≠ some k)
theorem Apt.ne {T : List Value} (h : Apt T) {i j : Nat} {v u : Value} (hi : T[i]? = some v) (hj : T[j]? = some u) (hij : i ≠ j) : ∀ k, v.ownBlock = some k → u.ownBlock ≠ some k := fun k hk hu => by
  obtain ⟨hi1, hi2⟩ := List.getElem?_eq_some_iff.1 hi
  obtain ⟨hj1, hj2⟩ := List.getElem?_eq_some_iff.1 hj
  have hp := List.pairwise_iff_getElem.1 h
  rcases Nat.lt_or_gt_of_ne hij with h1 | h1
  · exact hp i j hi1 hj1 h1 k (hi2 ▸ hk) (hj2 ▸ hu)
  · exact hp j i hj1 hi1 h1 k (hj2 ▸ hu) (hi2 ▸ hk)
theorem Apt.two {T : List Value} (h : Apt T) {a b : Value} {s : Nat} (hT : ∀ v, v ∈ T → ∀ k, v.ownBlock = some k → k < s) (ha : ∀ k, a.ownBlock = some k → s ≤ k) (hb : ∀ k, b.ownBlock = some k → s ≤ k) (hab : ∀ k, a.ownBlock = some k → b.ownBlock ≠ some k) : Apt (T ++ [a, b]) := by
  unfold Apt
  rw [List.pairwise_append]
  refine ⟨h, ?_, fun v hv u hu k hk hk2 => ?_⟩
  · rw [List.pairwise_cons]
    exact ⟨fun u hu k hk => by rw [List.mem_singleton] at hu; subst hu; exact hab k hk, List.pairwise_singleton _ _⟩
  · have h1 := hT v hv k hk
    simp only [List.mem_cons, List.not_mem_nil, or_false] at hu
    rcases hu with rfl | rfl
    · have := ha k hk2; omega
    · have := hb k hk2; omega
def upd (X : Nat → List S32) (i : Nat) (l : List S32) : Nat → List S32 := fun j => if j = i then l else X j
theorem upd_same (X : Nat → List S32) (i : Nat) (l : List S32) : upd X i l i = l := if_pos rfl
theorem upd_ne (X : Nat → List S32) {i j : Nat} (l : List S32) (h : j ≠ i) : upd X i l j = X j := if_neg h
section
variable {w0 w w' : World} {vl vw vm : Value} {T S M : List Value} {X : Nat → List S32}
theorem Rs.lt (h : Rs w T X) : ∀ v, v ∈ T → ∀ k, v.ownBlock = some k → k < w.heap.size := fun v hv k hk => by
  obtain ⟨j, hj, e⟩ := List.getElem_of_mem hv
  exact ((h j v (by rw [List.getElem?_eq_getElem hj, e])).lt k hk).2
theorem Rs.step (h : Rs w T X) (hb : ∀ v, v ∈ T → ∀ k, v.ownBlock = some k → w'.heap[k]? = w.heap[k]?) : Rs w' T X := fun j v hv => (h j v hv).step (hb v (List.mem_of_getElem? hv))
theorem Rs.below (h : Rs w T X) (hb : Below w.heap.size w w') : Rs w' T X := h.step fun v hv k hk => hb.block k (h.lt v hv k hk)
/-- a row of lists has turned: the lists have not -/
theorem Rs.grown {n : Nat} (h : Rs w T X) (ho : w.ownsRow 0 25 1 vl n S) (hg : w.grownBy w' vl.ownBlock) : Rs w' T X := h.step fun v hv k hk => by
  obtain ⟨j, hj, e⟩ := List.getElem_of_mem hv
  have hr := h j v (by rw [List.getElem?_eq_getElem hj, e])
  exact hg.block k (hr.lt k hk).2 (fun e2 => own_ne hr ho (by decide) k hk e2.symm)
theorem own_below {base n : Nat} {e sz : Nat} {v : Value} {xs : List Value} (h : w.ownsRow base e sz v n xs) (hb : Below w.heap.size w w') : w'.ownsRow base e sz v n xs := own_move h (fun k hk => hb.block k (own_lt h k hk))
/-- phase 1: the lists and their copies -/
structure U1 (w0 w : World) (vl vw : Value) (T S : List Value) (X : Nat → List S32) : Prop where
  rl : w.ownsRow 0 25 1 vl T.length T
  rw_ : w.ownsRow 0 25 1 vw S.length S
  le : S.length ≤ T.length
  ls : Rs w T X
  rs : Rs w S X
  ap : Apt T
  ne : ∀ k, vl.ownBlock = some k → vw.ownBlock ≠ some k
  nl : ∀ k, vl.ownBlock = some k → w0.heap.size ≤ k
  nw : ∀ k, vw.ownBlock = some k → w0.heap.size ≤ k
  nT : ∀ v, v ∈ T → ∀ k, v.ownBlock = some k → w0.heap.size ≤ k
  bel : Below w0.heap.size w0 w
  lX : ∀ j, (X j).length ≤ 253952
theorem U1.new (w : World) : U1 w w (.slice none 0 0) (.slice none 0 0) [] [] (fun _ => []) :=
  ⟨own_nil _ _ _ _, own_nil _ _ _ _, Nat.le_refl _, (fun j v h => by simp at h), (fun j v h => by simp at h), List.Pairwise.nil, (fun k hk => by cases hk), (fun k hk => by cases hk), (fun k hk => by cases hk), (fun v hv => by cases hv), Below.refl _ _, fun j => Nat.zero_le _⟩
theorem U1.below (h : U1 w0 w vl vw T S X) (hb : Below w.heap.size w w') : U1 w0 w' vl vw T S X :=
  ⟨own_below h.rl hb, own_below h.rw_ hb, h.le, h.ls.below hb, h.rs.below hb, h.ap, h.ne, h.nl, h.nw, h.nT, below_step h.bel hb, h.lX⟩
theorem U1.putL {w2 w3 w4 : World} {va vb vl' : Value} {xa xb : List S32} (h : U1 w0 w vl vw T S X) (hb2 : Below w.heap.size w w2) (ra : Row w2 w.heap.size va xa) (rb : Row w2 w.heap.size vb xb) (hab : ∀ k, va.ownBlock = some k → vb.ownBlock ≠ some k) (la : xa.length ≤ 253952) (lb : xb.length ≤ 253952)
    (hb3 : Below w2.heap.size w2 w3) (ho : w4.ownsRow 0 25 1 vl' (T.length + 2) (T ++ [va, vb])) (hg : w3.grownBy w4 vl.ownBlock) (hl : vl'.ownBlock = vl.ownBlock ∨ vl'.ownBlock = some w3.heap.size) : U1 w0 w4 vl' vw (T ++ [va, vb]) S (upd (upd X T.length xa) (T.length + 1) xb) := by
  have hb13 := below_step hb2 hb3
  have h3 := h.below hb13
  have z0 := h.bel.size
  have z3 := hb13.size
  have hTlt : ∀ v, v ∈ T → ∀ k, v.ownBlock = some k → k < w.heap.size := h.ls.lt
  have rs3 : Rs w3 (T ++ [va, vb]) (upd (upd X T.length xa) (T.length + 1) xb) := fun j v hj => by
    rcases Nat.lt_or_ge j T.length with c | c
    · rw [List.getElem?_append_left c] at hj
      rw [upd_ne _ _ (by omega), upd_ne _ _ (by omega)]
      exact h3.ls j v hj
    · rw [List.getElem?_append_right c] at hj
      obtain ⟨d, rfl⟩ : ∃ d, j = T.length + d := ⟨j - T.length, by omega⟩
      rw [Nat.add_sub_cancel_left] at hj
      match d, hj with
      | 0, hj =>
        simp at hj
        subst hj
        rw [upd_ne _ _ (by omega), Nat.add_zero, upd_same]
        exact (ra.below hb3).low
      | 1, hj =>
        simp at hj
        subst hj
        rw [upd_same]
        exact (rb.below hb3).low
      | d + 2, hj => simp at hj
  have hvw4 : w4.ownsRow 0 25 1 vw S.length S := own_move h3.rw_ (fun k hk => hg.block k (own_lt h3.rw_ k hk) (fun e => h.ne k e.symm hk))
  have rsS : Rs w3 S (upd (upd X T.length xa) (T.length + 1) xb) := fun j v hj => by
    have hj2 := (List.getElem?_eq_some_iff.1 hj).1
    have := h.le
    rw [upd_ne _ _ (by omega), upd_ne _ _ (by omega)]
    exact h3.rs j v hj
  refine ⟨by simpa using ho, hvw4, by have := h.le; simp; omega, rs3.grown h3.rl hg, rsS.grown h3.rl hg, h.ap.two hTlt (fun k hk => (ra.lt k hk).1) (fun k hk => (rb.lt k hk).1) hab, fun k hk hk2 => ?_, fun k hk => ?_, h.nw, fun v hv k hk => ?_, ?_, fun j => ?_⟩
  · rcases hl with e | e
    · exact h.ne k (e ▸ hk) hk2
    · rw [e] at hk; injection hk with hk; have := own_lt h.rw_ k hk2; omega
  · rcases hl with e | e
    · exact h.nl k (e ▸ hk)
    · rw [e] at hk; injection hk with hk; omega
  · rcases List.mem_append.1 hv with hv | hv
    · exact h.nT v hv k hk
    · simp only [List.mem_cons, List.not_mem_nil, or_false] at hv
      rcases hv with rfl | rfl
      · have := (ra.lt k hk).1; omega
      · have := (rb.lt k hk).1; omega
  · exact h3.bel.trans ((Turn.of_grown (F := vl.ownBlock.toList) hg (fun k hk => by simp [hk])).below h3.bel.size (fun k hk => h.nl k (by simpa using hk)))
  · unfold upd
    split
    · exact lb
    · split
      · exact la
      · exact h.lX j
theorem U1.putS {w2 w3 w4 : World} {va vb vw' : Value} (h : U1 w0 w vl vw T S X) (hb2 : Below w.heap.size w w2) (ra : Row w2 w.heap.size va (X S.length)) (rb : Row w2 w.heap.size vb (X (S.length + 1)))
    (hle : S.length + 2 ≤ T.length) (hb3 : Below w2.heap.size w2 w3) (ho : w4.ownsRow 0 25 1 vw' (S.length + 2) (S ++ [va, vb])) (hg : w3.grownBy w4 vw.ownBlock) (hl : vw'.ownBlock = vw.ownBlock ∨ vw'.ownBlock = some w3.heap.size) : U1 w0 w4 vl vw' T (S ++ [va, vb]) X := by
  have hb13 := below_step hb2 hb3
  have h3 := h.below hb13
  have z0 := h.bel.size
  have z3 := hb13.size
  have rs3 : Rs w3 (S ++ [va, vb]) X := fun j v hj => by
    rcases Nat.lt_or_ge j S.length with c | c
    · rw [List.getElem?_append_left c] at hj
      exact h3.rs j v hj
    · rw [List.getElem?_append_right c] at hj
      obtain ⟨d, rfl⟩ : ∃ d, j = S.length + d := ⟨j - S.length, by omega⟩
      rw [Nat.add_sub_cancel_left] at hj
      match d, hj with
      | 0, hj =>
        simp at hj
        subst hj
        exact (ra.below hb3).low
      | 1, hj =>
        simp at hj
        subst hj
        exact (rb.below hb3).low
      | d + 2, hj => simp at hj
  have hvl4 : w4.ownsRow 0 25 1 vl T.length T := own_move h3.rl (fun k hk => hg.block k (own_lt h3.rl k hk) (fun e => h.ne k hk e.symm))
  refine ⟨hvl4, by simpa using ho, by simpa using hle, h3.ls.grown h3.rw_ hg, rs3.grown h3.rw_ hg, h.ap, fun k hk hk2 => ?_, h.nl, fun k hk => ?_, h.nT, ?_, h.lX⟩
  · rcases hl with e | e
    · exact h.ne k hk (e ▸ hk2)
    · rw [e] at hk2; injection hk2 with hk2; have := own_lt h.rl k hk; omega
  · rcases hl with e | e
    · exact h.nw k (e ▸ hk)
    · rw [e] at hk; injection hk with hk; omega
  · exact h3.bel.trans ((Turn.of_grown (F := vw.ownBlock.toList) hg (fun k hk => by simp [hk])).below h3.bel.size (fun k hk => h.nw k (by simpa using hk)))
/-- phase 3: the lists alone -/
structure U3 (w0 w : World) (vl : Value) (T : List Value) (X : Nat → List S32) : Prop where
  rl : w.ownsRow 0 25 1 vl T.length T
  ls : Rs w T X
  ap : Apt T
  nl : ∀ k, vl.ownBlock = some k → w0.heap.size ≤ k
  nT : ∀ v, v ∈ T → ∀ k, v.ownBlock = some k → w0.heap.size ≤ k
  bel : Below w0.heap.size w0 w
  lX : ∀ j, (X j).length ≤ 253952
theorem U1.u3 (h : U1 w0 w vl vw T S X) : U3 w0 w vl T X := ⟨h.rl, h.ls, h.ap, h.nl, h.nT, h.bel, h.lX⟩
theorem U3.below (h : U3 w0 w vl T X) (hb : Below w.heap.size w w') : U3 w0 w' vl T X := ⟨own_below h.rl hb, h.ls.below hb, h.ap, h.nl, h.nT, below_step h.bel hb, h.lX⟩
/-- one list's block has turned -/
theorem U3.turn {i : Nat} {v : Value} {l : List S32} (h : U3 w0 w vl T X) (hi : T[i]? = some v) (ht : Turn w w' v.ownBlock.toList) (hr : Row w' 0 v l) (hl : l.length ≤ 253952) : U3 w0 w' vl T (upd X i l) := by
  have hrow := h.ls i v hi
  refine ⟨own_move h.rl (fun k hk => ht.block k (own_lt h.rl k hk) (fun hm => own_ne hrow h.rl (by decide) k (by simpa using hm) hk)), fun j u hj => ?_, h.ap, h.nl, h.nT, h.bel.trans (ht.below h.bel.size (fun k hk => h.nT v (List.mem_of_getElem? hi) k (by simpa using hk))), fun j => ?_⟩
  · by_cases e : j = i
    · subst e
      rw [hi] at hj
      injection hj with hj
      subst hj
      rw [upd_same]
      exact hr
    · rw [upd_ne _ _ e]
      exact (h.ls j u hj).turn ht (fun k hk hm => h.ap.ne hj hi e k hk (by simpa using hm))
  · unfold upd
    split
    · exact hl
    · exact h.lX j
end
section
theorem upd_self (X : Nat → List S32) (i : Nat) : upd X i (X i) = X := by
  funext j
  unfold upd
  split
  · rename_i h; rw [h]
  · rfl
theorem pfC_set : ∀ (xs : List S32) (k : Nat) (m : S32), ((pfC xs).set (k * 2) (.int .u32 m.f0)).set (k * 2 + 1) (.int .i64 m.f1) = pfC (xs.set k m)
  | [], k, m => rfl
  | x :: r, 0, m => rfl
  | x :: r, k + 1, m => by
    rw [show (k + 1) * 2 = k * 2 + 1 + 1 from by omega]
    simp only [pfC, List.set_cons_succ]
    rw [pfC_set r k m]
/-- the mark of list j -/
def mj (j : Nat) : S32 := ⟨j, 77⟩
/-- phase 4: each list is full of its mark, and has grown in its place -/
structure U4 (w0 w : World) (vl vm : Value) (T M : List Value) (X : Nat → List S32) : Prop where
  u3 : U3 w0 w vl T X
  full : ∀ j, j < T.length → X j = List.replicate (X j).length (mj j)
  rm : w.ownsRow 0 25 1 vm M.length M
  nm : ∀ k, vm.ownBlock = some k → w0.heap.size ≤ k
  ne : ∀ k, vm.ownBlock = some k → vl.ownBlock ≠ some k
  ms : ∀ j v, M[j]? = some v → ∃ A n c r, T[j]? = some (.slice A n c) ∧ v = .slice A (n + r) c ∧ Row w 0 v (List.replicate (n + r) (mj j))
section
variable {w0 w w' : World} {vl vw vm : Value} {T S M : List Value} {X : Nat → List S32}
theorem U4.new (h : U3 w0 w vl T X) (hf : ∀ j, j < T.length → X j = List.replicate (X j).length (mj j)) : U4 w0 w vl (.slice none 0 0) T [] X := ⟨h, hf, own_nil _ _ _ _, (fun k hk => by cases hk), (fun k hk => by cases hk), (fun j v h => by simp at h)⟩
theorem U4.below (h : U4 w0 w vl vm T M X) (hb : Below w.heap.size w w') : U4 w0 w' vl vm T M X :=
  ⟨h.u3.below hb, h.full, own_below h.rm hb, h.nm, h.ne, fun j v hv => by
    obtain ⟨A, n, c, r, h1, h2, h3⟩ := h.ms j v hv
    exact ⟨A, n, c, r, h1, h2, h3.below hb⟩⟩
/-- what list i is -/
theorem U4.at (h : U4 w0 w vl vm T M X) {i : Nat} (hi : i < T.length) : ∃ A n c, T[i]? = some (.slice A n c) ∧ n ≤ 253952 ∧ Row w 0 (.slice A n c) (List.replicate n (mj i)) ∧ X i = List.replicate n (mj i) := by
  have hr := h.u3.ls i T[i] (List.getElem?_eq_getElem hi)
  obtain ⟨A, c, e, _⟩ := hr.C
  rw [e] at hr
  have hf := h.full i hi
  refine ⟨A, _, c, by rw [List.getElem?_eq_getElem hi, e], h.u3.lX i, ?_, hf⟩
  rw [← hf]
  exact hr
theorem U4.grow {i n k c : Nat} {g : Nat} (h : U4 w0 w vl vm T M X) (hM : M.length ≤ i) (hi : T[i]? = some (.slice (some ⟨g, 0, none⟩) n c)) (hX : X i = List.replicate n (mj i)) (hg : w.grownBy w' (some g)) (hr : Row w' 0 (.slice (some ⟨g, 0, none⟩) (n + k) c) (List.replicate (n + k) (mj i))) : U4 w0 w' vl vm T M X := by
  have hlt := (List.getElem?_eq_some_iff.1 hi).1
  have ht : Turn w w' (Value.slice (some ⟨g, 0, none⟩) n c).ownBlock.toList := Turn.of_grown hg (fun b hb => by simp [Value.ownBlock, hb])
  have hp : Row w' 0 (.slice (some ⟨g, 0, none⟩) n c) (X i) := by
    have e : List.replicate (n + k) (mj i) = List.replicate n (mj i) ++ List.replicate k (mj i) := List.replicate_append_replicate.symm
    rw [hX]
    refine Row.prefix_ (ys := List.replicate k (mj i)) ?_ (by simp)
    rw [← e, List.length_replicate]
    exact hr
  have hlX := h.u3.lX i
  have h3 := h.u3.turn hi ht hp hlX
  rw [upd_self] at h3
  have hrow := h.u3.ls i _ hi
  have hown : (Value.slice (some ⟨g, 0, none⟩) n c).ownBlock = some g := rfl
  refine ⟨h3, h.full, own_move h.rm (fun k hk => hg.block k (own_lt h.rm k hk) (fun e => own_ne hrow h.rm (by decide) k (by rw [hown]; exact e.symm) hk)), h.nm, h.ne, fun j v hv => ?_⟩
  obtain ⟨A, n', c', r, h1, h2, h4⟩ := h.ms j v hv
  have hj := (List.getElem?_eq_some_iff.1 hv).1
  refine ⟨A, n', c', r, h1, h2, h4.step (fun b hb => hg.block b (h4.lt b hb).2 (fun e => ?_))⟩
  have hne := h.u3.ap.ne h1 hi (by omega) b (by rw [h2] at hb; cases A <;> exact hb)
  exact hne (by rw [hown]; exact e.symm)
theorem U4.put {i n r c : Nat} {A : Option Addr} {v vm' : Value} {w2 : World} (h : U4 w0 w vl vm T M X) (hM : M.length = i) (hi : T[i]? = some (.slice A n c)) (hv : v = .slice A (n + r) c) (hr : Row w 0 v (List.replicate (n + r) (mj i))) (hb : Below w.heap.size w w2)
    (ho : w'.ownsRow 0 25 1 vm' (M.length + 1) (M ++ [v])) (hg : w2.grownBy w' vm.ownBlock) (hl : vm'.ownBlock = vm.ownBlock ∨ vm'.ownBlock = some w2.heap.size) : U4 w0 w' vl vm' T (M ++ [v]) X := by
  have h2 := h.below hb
  have z := hb.size
  have z0 := h.u3.bel.size
  have hrl : ∀ k, vl.ownBlock = some k → some k ≠ vm.ownBlock := fun k hk e => h.ne k e.symm hk
  have htur : Turn w2 w' vm.ownBlock.toList := Turn.of_grown hg (fun k hk => by simp [hk])
  refine ⟨⟨own_move h2.u3.rl (fun k hk => hg.block k (own_lt h2.u3.rl k hk) (hrl k hk)), h2.u3.ls.grown h2.rm hg, h.u3.ap, h.u3.nl, h.u3.nT, h2.u3.bel.trans (htur.below h2.u3.bel.size (fun k hk => h.nm k (by simpa using hk))), h.u3.lX⟩, h.full, by simpa using ho, fun k hk => ?_, fun k hk hk2 => ?_, fun j u hj => ?_⟩
  · rcases hl with e | e
    · exact h.nm k (e ▸ hk)
    · rw [e] at hk; injection hk with hk; omega
  · rcases hl with e | e
    · exact h.ne k (e ▸ hk) hk2
    · rw [e] at hk; injection hk with hk; have := own_lt h.u3.rl k hk2; omega
  · have key : ∀ {u : Value} {xs : List S32}, Row w2 0 u xs → Row w' 0 u xs := fun {u xs} hu => hu.step (fun k hk => hg.block k (hu.lt k hk).2 (fun e => own_ne hu h2.rm (by decide) k hk e.symm))
    rcases Nat.lt_or_ge j M.length with c1 | c1
    · rw [List.getElem?_append_left c1] at hj
      obtain ⟨A', n', c', r', x1, x2, x3⟩ := h2.ms j u hj
      exact ⟨A', n', c', r', x1, x2, key x3⟩
    · rw [List.getElem?_append_right c1] at hj
      have e : j = i := by
        have := (List.getElem?_eq_some_iff.1 hj).1
        simp at this
        omega
      subst e
      rw [hM, Nat.sub_self] at hj
      simp at hj
      subst hj
      exact ⟨A, n, c, r, hi, hv, key (hr.below hb)⟩
theorem Row.rep {v : Value} {n : Nat} {m : S32} (h : Row w 0 v (List.replicate n m)) : w.ownsRow 0 32 2 v n (pfC (List.replicate n m)) := by
  unfold Row at h
  rw [List.length_replicate] at h
  exact h
/-- a struct is written into a list -/
theorem Row.put {g n c k : Nat} {xs : List S32} (h : Row w 0 (.slice (some ⟨g, 0, none⟩) n c) xs) (hk : k < xs.length) (m : S32) :
    (∃ x y, w.cell? ⟨g, k * 2, none⟩ = some x ∧ w.cell? ⟨g, k * 2 + 1, none⟩ = some y ∧ w.frozen? ⟨g, k * 2, none⟩ = false ∧ w.frozen? ⟨g, k * 2 + 1, none⟩ = false) ∧
    Row ((w.setCell ⟨g, k * 2, none⟩ (.int .u32 m.f0)).setCell ⟨g, k * 2 + 1, none⟩ (.int .i64 m.f1)) 0 (.slice (some ⟨g, 0, none⟩) n c) (xs.set k m) ∧
    Turn w ((w.setCell ⟨g, k * 2, none⟩ (.int .u32 m.f0)).setCell ⟨g, k * 2 + 1, none⟩ (.int .i64 m.f1)) [g] := by
  have hn : n = xs.length := by
    rcases h.2 with ⟨h1, _⟩ | ⟨g', cap, cur, h1, _⟩
    · cases h1
    · injection h1
  subst hn
  have hs := ((World.ownsRow.stored h (k * 2) (.int .u32 m.f0)).1.stored (k * 2 + 1) (.int .i64 m.f1)).1
  rw [pfC_set] at hs
  have hl := pfC_length xs
  obtain ⟨x, hx⟩ : ∃ x, (pfC xs)[k * 2]? = some x := ⟨_, List.getElem?_eq_getElem (by omega)⟩
  obtain ⟨y, hy⟩ : ∃ y, (pfC xs)[k * 2 + 1]? = some y := ⟨_, List.getElem?_eq_getElem (by omega)⟩
  have kc0 := h.cells (g := g) rfl _ _ hx
  have kc1 := h.cells (g := g) rfl _ _ hy
  rw [add_plain] at kc0 kc1
  refine ⟨⟨x, y, kc0, kc1, World.ownsRow.frozenAt h (g := g) (k * 2), World.ownsRow.frozenAt h (g := g) (k * 2 + 1)⟩, ?_, ((Turn.refl w [g]).set (p := ⟨g, k * 2, none⟩) (Or.inl (by simp)) _).set (p := ⟨g, k * 2 + 1, none⟩) (Or.inl (by simp)) _⟩
  unfold Row
  rw [List.length_set]
  exact hs
end
end
end Go.Proofs.Ytncpcjphljfcpaa.Nm
