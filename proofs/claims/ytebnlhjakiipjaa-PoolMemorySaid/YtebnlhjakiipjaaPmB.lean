/- What untouched holds in memory. Conditions: none. -/
import Derived.Test.YtebnlhjakiipjaaPmA
set_option linter.unusedVariables false
set_option linter.unusedSimpArgs false
namespace Go.Proofs.Ytebnlhjakiipjaa.Pl
open Go.RowKit Go.Maps Go.Proofs.YtebnlhjakiipjaaW.PrintWords Go.Proofs.YtebnlhjakiipjaaW.PrintMore Go.Proofs.YtebnlhjakiipjaaW.PrintLast Go.Proofs.Ytebnlhjakiipjaa.PPlf
theorem Po.neT {w : World} {p : Nat} {M : Pm} {L : List Int} {F : List Nat} (h : Po w p M L F) {k t : Nat} {cs : Array Value} (ht : t = 27 ∨ t = 28 ∨ t = 87) (hk : w.heap[k]? = some (.cells cs t (0, 0))) : k ∉ F := fun hf => by
  obtain ⟨vk, bm, vr, R, h1, _, rfl⟩ := h
  simp only [PlF, List.mem_cons, List.mem_append, Option.mem_toList, Option.mem_def] at hf
  rcases hf with rfl | rfl | hf | hf
  · rw [h1.blk] at hk
    have := (Obj.cells.inj (Option.some.inj hk)).2.1
    rcases ht with rfl | rfl | rfl <;> exact absurd this (by decide)
  · obtain ⟨es, clock, hm⟩ := h1.mp.map
    rw [hm] at hk; cases hk
  · obtain ⟨c, hc⟩ := own_typed h1.rk k hf
    rw [hc] at hk
    have := (Obj.cells.inj (Option.some.inj hk)).2.1
    rcases ht with rfl | rfl | rfl <;> exact absurd this (by decide)
  · obtain ⟨c, hc⟩ := own_typed h1.rr k hf
    rw [hc] at hk
    have := (Obj.cells.inj (Option.some.inj hk)).2.1
    rcases ht with rfl | rfl | rfl <;> exact absurd this (by decide)
/-- the pool, the lists asked (in X, and what they hold: T), copies of them (in X', T') -/
structure U1 (w0 w : World) (p : Nat) (M : Pm) (va vw : Value) (X X' : List Value) (T T' : Lz) : Prop where
  sg : ∃ L F, Sg w0 p M L F w
  ra : w.ownsRow w0.heap.size 28 1 va X.length X
  rb : w.ownsRow w0.heap.size 28 1 vw X'.length X'
  ap : ∀ k, va.ownBlock = some k → vw.ownBlock ≠ some k
  ls : LsOk w0 w T
  lw : LsOk w0 w T'
section
variable {w0 w w' : World} {p : Nat} {M : Pm} {va vw va' : Value} {X X' Y : List Value} {T T' : Lz}
theorem U1.bel (h : U1 w0 w p M va vw X X' T T') : Below w0.heap.size w0 w := by obtain ⟨L, F, hs⟩ := h.sg; exact hs.bel
theorem U1.new {L : List Int} {F : List Nat} (h : Sg w0 p M L F w) : U1 w0 w p M (.slice none 0 0) (.slice none 0 0) [] [] [] [] :=
  ⟨⟨L, F, h⟩, own_nil _ _ _ _, own_nil _ _ _ _, fun k hk => (by cases hk), LsOk.nil _ _, LsOk.nil _ _⟩
theorem U1.below (h : U1 w0 w p M va vw X X' T T') (hb : Below w.heap.size w w') : U1 w0 w' p M va vw X X' T T' := by
  obtain ⟨⟨L, F, hs⟩, h2, h3, h4, h5, h6⟩ := h
  exact ⟨⟨L, F, hs.below hb⟩, own_move h2 (fun k hk => hb.block k (own_lt h2 k hk)), own_move h3 (fun k hk => hb.block k (own_lt h3 k hk)), h4, h5.below hb, h6.below hb⟩
/-- a step on the pool -/
theorem U1.pool {L L' : List Int} {F F' : List Nat} (h : U1 w0 w p M va vw X X' T T') (hs : Sg w0 p M L F w) (hs' : Sg w0 p M L' F' w') (ht : Turn w w' F) : U1 w0 w' p M va vw X X' T T' := by
  obtain ⟨_, h2, h3, h4, h5, h6⟩ := h
  have hr : ∀ {v : Value} {Z : List Value}, w.ownsRow w0.heap.size 28 1 v Z.length Z → w'.ownsRow w0.heap.size 28 1 v Z.length Z := fun h => own_move h (fun k hk => ht.block k (own_lt h k hk) (by obtain ⟨c, hc⟩ := own_typed h k hk; exact hs.p1.neT (.inr (.inl rfl)) hc))
  exact ⟨⟨L', F', hs'⟩, hr h2, hr h3, h4, h5.typed ht (fun k cs hk => hs.p1.neT (.inl rfl) hk), h6.typed ht (fun k cs hk => hs.p1.neT (.inl rfl) hk)⟩
theorem U1.taken (h : U1 w0 w p M va vw X X' T T') (hb : Below w.heap.size w w') {v : Value} {xs : List S27} (r : Row w' w.heap.size v xs) : U1 w0 w' p M va vw X X' (T ++ [(v, xs)]) T' := by
  have h' := h.below hb
  exact ⟨h'.sg, h'.ra, h'.rb, h'.ap, h.ls.snoc h.bel.size hb r, h'.lw⟩
theorem U1.copied (h : U1 w0 w p M va vw X X' T T') (hb : Below w.heap.size w w') {v : Value} {xs : List S27} (r : Row w' w.heap.size v xs) : U1 w0 w' p M va vw X X' T (T' ++ [(v, xs)]) := by
  have h' := h.below hb
  exact ⟨h'.sg, h'.ra, h'.rb, h'.ap, h'.ls, h.lw.snoc h.bel.size hb r⟩
theorem U1.swap (h : U1 w0 w p M va vw X X' T T') : U1 w0 w p M vw va X' X T' T := ⟨h.sg, h.rb, h.ra, fun k hk hk2 => h.ap k hk2 hk, h.lw, h.ls⟩
/-- the row of the lists has grown -/
theorem U1.grow (h : U1 w0 w p M va vw X X' T T') (o : w'.ownsRow w0.heap.size 28 1 va' Y.length Y) (g : w.grownBy w' va.ownBlock) (n : NB va va' w) : U1 w0 w' p M va' vw Y X' T T' := by
  obtain ⟨⟨L, F, hs⟩, h2, h3, h4, h5, h6⟩ := h
  have ht : Turn w w' va.ownBlock.toList := Turn.of_grown g (fun b hb => by simp [hb])
  have hF : ∀ k, k ∈ F → k ∉ va.ownBlock.toList := fun k hk hm => by
    have hm : va.ownBlock = some k := by simpa using hm
    obtain ⟨c, hc⟩ := own_typed h2 k hm
    exact hs.p1.neT (.inr (.inl rfl)) hc hk
  have hty : ∀ k cs, w.heap[k]? = some (.cells cs 27 (0, 0)) → k ∉ va.ownBlock.toList := fun k cs hk hm => by
    have hm : va.ownBlock = some k := by simpa using hm
    obtain ⟨c, hc⟩ := own_typed h2 k hm
    rw [hc] at hk
    exact absurd (Obj.cells.inj (Option.some.inj hk)).2.1 (by decide)
  refine ⟨⟨L, F, ⟨hs.p1.turn ht hF, hs.l1, hs.n1, hs.bel.trans (ht.below hs.bel.size (fun k hk => own_base h2 k (by simpa using hk)))⟩⟩, o, own_move h3 (fun k hk => ht.block k (own_lt h3 k hk) (fun hm => h4 k (by simpa using hm) hk)), fun k hk hk2 => ?_, h5.typed ht hty, h6.typed ht hty⟩
  rcases n k hk with h7 | h7
  · exact h4 k h7 hk2
  · have := own_lt h3 k hk2; omega
end
/-- the lists alone -/
structure U3 (w0 w : World) (va : Value) (X : List Value) (T : Lz) : Prop where
  bel : Below w0.heap.size w0 w
  ra : w.ownsRow w0.heap.size 28 1 va X.length X
  ls : LsOk w0 w T
  eq : T.map (·.1) = X
  sm : ∀ (i : Nat) (h : i < T.length), T[i].2.length ≤ 4294967296
abbrev mk77 (i : Nat) : S27 := ⟨(i : Int), 77⟩
/-- the first j are full of their marks; k elements of the j-th are -/
def AllM (T : Lz) (j : Nat) : Prop := ∀ (i : Nat) (h : i < T.length), i < j → ∀ x, x ∈ T[i].2 → x = mk77 i
def PreM (T : Lz) (j k : Nat) : Prop := ∀ (h : j < T.length) (i : Nat) (hi : i < T[j].2.length), i < k → T[j].2[i] = mk77 j
section
variable {w0 w w' : World} {va : Value} {X : List Value} {T : Lz} {j k : Nat}
theorem U3.below (h : U3 w0 w va X T) (hb : Below w.heap.size w w') : U3 w0 w' va X T :=
  ⟨below_step h.bel hb, own_move h.ra (fun k hk => hb.block k (own_lt h.ra k hk)), h.ls.below hb, h.eq, h.sm⟩
theorem U3.len (h : U3 w0 w va X T) : X.length = T.length := by rw [← h.eq, List.length_map]
theorem U3.at_ (h : U3 w0 w va X T) (hj : j < T.length) : ∃ g c A c2, va = .slice (some ⟨g, 0, none⟩) T.length c ∧ T[j].1 = .slice A T[j].2.length c2 ∧ w.cell? ⟨g, j, none⟩ = some (.slice A T[j].2.length c2) ∧ T[j].2.length ≤ c2 ∧ Kd.C k27 w A T[j].2.length T[j].2 := by
  obtain ⟨g, c, e, hc⟩ := arr_at h.ra (i := j) (by rw [h.len]; exact hj)
  obtain ⟨A, c2, e2, h3, h4⟩ := (h.ls.row j hj).C
  refine ⟨g, c, A, c2, by rw [e, h.len], e2, ?_, h3, h4⟩
  rw [hc]
  have : X[j]'(by rw [h.len]; exact hj) = T[j].1 := by simp only [← h.eq, List.getElem_map]
  rw [this, e2]
theorem AllM.zero (T : Lz) : AllM T 0 := fun i h hi => by omega
theorem PreM.zero (T : Lz) (j : Nat) : PreM T j 0 := fun h i hi hk => by omega
theorem AllM.next (h : AllM T j) (hp : PreM T j k) (hj : j < T.length) (hk : T[j].2.length ≤ k) : AllM T (j + 1) := fun i hi hij x hx => by
  by_cases c : i = j
  · subst c
    obtain ⟨n, hn, rfl⟩ := List.getElem_of_mem hx
    exact hp hj n hn (by omega)
  · exact h i hi (by omega) x hx
/-- an element of the j-th is marked -/
theorem U3.mark (h : U3 w0 w va X T) (ha : AllM T j) (hp : PreM T j k) (hj : j < T.length) (hk : k < T[j].2.length) {g c : Nat} (e : T[j].1 = .slice (some ⟨g, 0, none⟩) T[j].2.length c) :
    ∃ T', U3 w0 ((w.setCell ⟨g, k * 2, none⟩ (.int .u32 (j : Int))).setCell ⟨g, k * 2 + 1, none⟩ (.int .i64 77)) va X T' ∧ AllM T' j ∧ PreM T' j (k + 1) ∧ T'.length = T.length ∧ (∀ (h : j < T.length) (h' : j < T'.length), T'[j].2.length = T[j].2.length) := by
  have hr := h.ls.row j hj
  rw [e] at hr
  have hr2 := hr.set1 k (mk77 j)
  have ht : Turn w ((w.setCell ⟨g, k * 2, none⟩ (.int .u32 (j : Int))).setCell ⟨g, k * 2 + 1, none⟩ (.int .i64 77)) [g] := ((Turn.refl w [g]).set (p := ⟨g, k * 2, none⟩) (Or.inl (by simp)) _).set (p := ⟨g, k * 2 + 1, none⟩) (Or.inl (by simp)) _
  have hb : (Value.slice (some ⟨g, 0, none⟩) T[j].2.length c).ownBlock = T[j].1.ownBlock := by rw [e]
  have hg := hr.lt g rfl
  refine ⟨T.set j (T[j].1, T[j].2.set k (mk77 j)), ⟨h.bel.trans (ht.below h.bel.size (fun b hb => by simp at hb; omega)), own_move h.ra (fun b hb2 => ht.block b (own_lt h.ra b hb2) (fun hm => ?_)), h.ls.put hj rfl (by rw [e]; exact hr2) (by rw [e]; exact ht.mono (fun b hb => by simpa [Value.ownBlock] using hb)), ?_, fun i hi => ?_⟩, fun i hi hij x hx => ?_, fun hj' i hi hik => ?_, List.length_set, fun h1 h2 => ?_⟩
  · have hm : b = g := by simpa using hm
    subst hm
    obtain ⟨c1, hc1⟩ := own_typed h.ra b hb2
    obtain ⟨c2, hc2⟩ := own_typed hr b rfl
    rw [hc1] at hc2
    exact absurd (Obj.cells.inj (Option.some.inj hc2)).2.1 (by decide)
  · rw [← h.eq]
    refine List.ext_getElem (by simp) (fun i h1 h2 => ?_)
    simp only [List.getElem_map]
    by_cases c : j = i
    · subst c; rw [List.getElem_set_self]
    · rw [List.getElem_set_ne c]
  · rw [List.length_set] at hi
    by_cases c : j = i
    · subst c; rw [List.getElem_set_self]; show (T[j].2.set k (mk77 j)).length ≤ _; rw [List.length_set]; exact h.sm j hj
    · rw [List.getElem_set_ne c]; exact h.sm i hi
  · rw [List.length_set] at hi
    rw [List.getElem_set_ne (by omega)] at hx
    exact ha i hi hij x hx
  · simp only [List.getElem_set_self] at hi ⊢
    by_cases c : k = i
    · subst c; rw [List.getElem_set_self]
    · rw [List.getElem_set_ne c]
      exact hp hj i (by simpa using hi) (by omega)
  · simp only [List.getElem_set_self, List.length_set]
end
/-- those from the j-th on are small -/
def Sm (X : List Value) (T : Lz) (j : Nat) : Prop := ∀ (i : Nat) (h : i < T.length) (h' : i < X.length), j ≤ i → T[i].2.length ≤ 4294967296 ∧ T[i].1 = X[i]
/-- the lists in their places (X), grown in them (T), the first j of these in another row -/
structure U4 (w0 w : World) (va vm : Value) (X : List Value) (T : Lz) (j : Nat) : Prop where
  bel : Below w0.heap.size w0 w
  ra : w.ownsRow w0.heap.size 28 1 va X.length X
  rm : w.ownsRow w0.heap.size 28 1 vm ((T.map (·.1)).take j).length ((T.map (·.1)).take j)
  ap : ∀ k, va.ownBlock = some k → vm.ownBlock ≠ some k
  ls : LsOk w0 w T
  len : X.length = T.length
  al : AllM T T.length
  rel : ∀ (i : Nat) (h : i < T.length) (h' : i < X.length), ∃ A n c, X[i] = .slice A n c ∧ T[i].1 = .slice A T[i].2.length c ∧ n ≤ T[i].2.length ∧ n ≤ 4294967296
section
variable {w0 w w' : World} {va vm vm' : Value} {X : List Value} {T : Lz} {j k : Nat}
theorem U3.four (h : U3 w0 w va X T) (ha : AllM T T.length) : U4 w0 w va (.slice none 0 0) X T 0 := by
  refine ⟨h.bel, h.ra, own_nil _ _ _ _, fun k hk hk2 => (by cases hk2), h.ls, h.len, ha, fun i hi hi' => ?_⟩
  obtain ⟨A, c, e, _⟩ := (h.ls.row i hi).C
  refine ⟨A, T[i].2.length, c, ?_, e, Nat.le_refl _, h.sm i hi⟩
  rw [← e]
  simp only [← h.eq, List.getElem_map]
theorem U3.sm0 (h : U3 w0 w va X T) : Sm X T 0 := fun i hi hi' _ => ⟨h.sm i hi, by simp only [← h.eq, List.getElem_map]⟩
/-- an element of a list may be written -/
theorem U3.slot (h : U3 w0 w va X T) (hj : j < T.length) (hk : k < T[j].2.length) : ∃ ga ca g c2 v0 v1, va = .slice (some ⟨ga, 0, none⟩) T.length ca ∧ T[j].1 = .slice (some ⟨g, 0, none⟩) T[j].2.length c2 ∧ w.cell? ⟨ga, j, none⟩ = some (.slice (some ⟨g, 0, none⟩) T[j].2.length c2) ∧ w.cell? ⟨g, k * 2, none⟩ = some v0 ∧ w.cell? ⟨g, k * 2 + 1, none⟩ = some v1 ∧ w.frozen? ⟨g, k * 2, none⟩ = false ∧ w.frozen? ⟨g, k * 2 + 1, none⟩ = false := by
  obtain ⟨ga, ca, A, c2, e1, e2, h3, _⟩ := h.at_ hj
  obtain ⟨g, c3, e4, h5, h6⟩ := (h.ls.row j hj).at_ hk
  rw [e2] at e4
  injection e4 with e4 _ e5
  subst e4 e5
  have hr : w.ownsRow w0.heap.size 27 2 (.slice (some ⟨g, 0, none⟩) T[j].2.length c2) T[j].2.length (pfC T[j].2) := by rw [← e2]; exact h.ls.row j hj
  exact ⟨ga, ca, g, c2, _, _, e1, e2, h3, h5, h6, hr.frozenAt (k * 2), hr.frozenAt (k * 2 + 1)⟩
theorem U4.below (h : U4 w0 w va vm X T j) (hb : Below w.heap.size w w') : U4 w0 w' va vm X T j :=
  ⟨below_step h.bel hb, own_move h.ra (fun k hk => hb.block k (own_lt h.ra k hk)), own_move h.rm (fun k hk => hb.block k (own_lt h.rm k hk)), h.ap, h.ls.below hb, h.len, h.al, h.rel⟩
/-- the j-th has grown in its place -/
theorem U4.grow (h : U4 w0 w va vm X T j) (hj : j < T.length) {g c : Nat} (e : T[j].1 = .slice (some ⟨g, 0, none⟩) T[j].2.length c) (r : Row w' w0.heap.size (.slice (some ⟨g, 0, none⟩) (T[j].2 ++ [mk77 j]).length c) (T[j].2 ++ [mk77 j])) (hg : w.grownBy w' (some g)) (hsm : Sm X T (j + 1)) :
    ∃ T' : Lz, ∃ h' : j < T'.length, U4 w0 w' va vm X T' j ∧ Sm X T' (j + 1) ∧ T'.length = T.length ∧ T'[j] = (.slice (some ⟨g, 0, none⟩) (T[j].2.length + 1) c, T[j].2 ++ [mk77 j]) := by
  have hr := h.ls.row j hj
  rw [e] at hr
  have hgb := (Row.lt hr g rfl)
  have ht : Turn w w' [g] := Turn.of_grown hg (fun b hb => by injection hb with hb; simp [hb])
  have hty : ∀ {v : Value} {Z : List Value}, w.ownsRow w0.heap.size 28 1 v Z.length Z → w'.ownsRow w0.heap.size 28 1 v Z.length Z := fun h2 => own_move h2 (fun b hb2 => ht.block b (own_lt h2 b hb2) (fun hm => by
    have hm : b = g := by simpa using hm
    subst hm
    obtain ⟨c1, hc1⟩ := own_typed h2 b hb2
    obtain ⟨c2, hc2⟩ := own_typed hr b rfl
    rw [hc1] at hc2
    exact absurd (Obj.cells.inj (Option.some.inj hc2)).2.1 (by decide)))
  have hmap : ((T.set j (.slice (some ⟨g, 0, none⟩) (T[j].2.length + 1) c, T[j].2 ++ [mk77 j])).map (·.1)).take j = (T.map (·.1)).take j := by
    refine List.ext_getElem (by simp) (fun i h1 h2 => ?_)
    simp only [List.getElem_take, List.getElem_map]
    rw [List.getElem_set_ne (by simp at h1; omega)]
  refine ⟨T.set j (.slice (some ⟨g, 0, none⟩) (T[j].2.length + 1) c, T[j].2 ++ [mk77 j]), by rw [List.length_set]; exact hj, ⟨h.bel.trans (ht.below h.bel.size (fun b hb => by simp at hb; omega)), hty h.ra, ?_, h.ap, ?_, by rw [List.length_set]; exact h.len, fun i hi hij x hx => ?_, fun i hi hi' => ?_⟩, fun i hi hi' hij => ?_, List.length_set, List.getElem_set_self (by rw [List.length_set]; exact hj)⟩
  · rw [hmap]
    exact hty h.rm
  · refine h.ls.put hj ?_ (by rw [List.length_append, List.length_singleton] at r; exact r) (ht.mono (fun b hb => by simpa [Value.ownBlock] using hb))
    rw [e]; rfl
  · rw [List.length_set] at hi
    by_cases c' : j = i
    · subst c'
      rw [List.getElem_set_self] at hx
      rcases List.mem_append.1 hx with hx | hx
      · exact h.al j hj hj x hx
      · simpa using hx
    · rw [List.getElem_set_ne c'] at hx
      exact h.al i hi hi x hx
  · rw [List.length_set] at hi
    obtain ⟨A, n, c2, e1, e2, e3, e4⟩ := h.rel i hi hi'
    by_cases c' : j = i
    · subst c'
      rw [e] at e2
      injection e2 with e6 _ e7
      subst e6 e7
      refine ⟨_, n, _, e1, ?_, ?_, e4⟩
      · simp only [List.getElem_set_self, List.length_append, List.length_singleton]
      · simp only [List.getElem_set_self, List.length_append, List.length_singleton]; omega
    · refine ⟨A, n, c2, e1, ?_, ?_, e4⟩
      · rw [List.getElem_set_ne c']; exact e2
      · rw [List.getElem_set_ne c']; exact e3
  · rw [List.length_set] at hi
    rw [List.getElem_set_ne (by omega)]
    exact hsm i hi hi' hij
/-- the j-th is put into the other row -/
theorem U4.more (h : U4 w0 w va vm X T j) (hj : j < T.length) (o : w'.ownsRow w0.heap.size 28 1 vm' ((T.map (·.1)).take j ++ [T[j].1]).length ((T.map (·.1)).take j ++ [T[j].1])) (g : w.grownBy w' vm.ownBlock) (n : NB vm vm' w) : U4 w0 w' va vm' X T (j + 1) := by
  have ht : Turn w w' vm.ownBlock.toList := Turn.of_grown g (fun b hb => by simp [hb])
  have e : (T.map (·.1)).take (j + 1) = (T.map (·.1)).take j ++ [T[j].1] := by
    rw [List.take_add_one, List.getElem?_map, List.getElem?_eq_getElem hj]; rfl
  refine ⟨h.bel.trans (ht.below h.bel.size (fun k hk => own_base h.rm k (by simpa using hk))), own_move h.ra (fun k hk => ht.block k (own_lt h.ra k hk) (fun hm => h.ap k hk (by simpa using hm))), by rw [e]; exact o, fun k hk hk2 => ?_, h.ls.typed ht (fun k cs hk hm => ?_), h.len, h.al, h.rel⟩
  · rcases n k hk2 with h7 | h7
    · exact h.ap k hk h7
    · have := own_lt h.ra k hk; omega
  · have hm : vm.ownBlock = some k := by simpa using hm
    obtain ⟨c, hc⟩ := own_typed h.rm k hm
    rw [hc] at hk
    exact absurd (Obj.cells.inj (Option.some.inj hk)).2.1 (by decide)
/-- an element of the lists, as it lies in both rows -/
theorem U4.at_ (h : U4 w0 w va vm X T T.length) {i : Nat} (hi : i < T.length) : ∃ ga ca gm cm A n c, va = .slice (some ⟨ga, 0, none⟩) T.length ca ∧ vm = .slice (some ⟨gm, 0, none⟩) T.length cm ∧ w.cell? ⟨ga, i, none⟩ = some (.slice A n c) ∧ w.cell? ⟨gm, i, none⟩ = some (.slice A T[i].2.length c) ∧ n ≤ T[i].2.length ∧ T[i].2.length ≤ maxLen ∧
    ∀ k, k < T[i].2.length → ∃ g, A = some ⟨g, 0, none⟩ ∧ w.cell? ⟨g, k * 2, none⟩ = some (.int .u32 (i : Int)) ∧ w.cell? ⟨g, k * 2 + 1, none⟩ = some (.int .i64 77) := by
  have hX : i < X.length := by rw [h.len]; exact hi
  obtain ⟨A, n, c, e1, e2, e3, e4⟩ := h.rel i hi hX
  obtain ⟨ga, ca, ea, h1⟩ := arr_at h.ra hX
  have hm := h.rm
  rw [List.take_of_length_le (by rw [List.length_map]; exact Nat.le_refl _)] at hm
  obtain ⟨gm, cm, em, h2⟩ := arr_at hm (i := i) (by rw [List.length_map]; exact hi)
  rw [List.getElem_map, e2] at h2
  rw [e1] at h1
  rw [h.len] at ea
  rw [List.length_map] at em
  refine ⟨ga, ca, gm, cm, A, n, c, ea, em, h1, h2, e3, (h.ls.row i hi).len, fun k hk => ?_⟩
  obtain ⟨g, c2, e5, h5, h6⟩ := (h.ls.row i hi).at_ hk
  rw [e2] at e5
  injection e5 with e5 _ _
  have hx := h.al i hi hi _ (List.getElem_mem hk)
  rw [hx] at h5 h6
  exact ⟨g, e5, h5, h6⟩
end
end Go.Proofs.Ytebnlhjakiipjaa.Pl
