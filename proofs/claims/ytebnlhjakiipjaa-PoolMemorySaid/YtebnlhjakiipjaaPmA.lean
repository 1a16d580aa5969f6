/- Lists of lists in memory, each in a block of its own, their content known. No condition. -/
import Derived.Test.YtebnlhjakiipjaaPoQ
set_option linter.unusedVariables false
set_option linter.unusedSimpArgs false
namespace Go.Proofs.Ytebnlhjakiipjaa.Pl
open Go.RowKit Go.Maps Go.Proofs.YtebnlhjakiipjaaW.PrintWords Go.Proofs.YtebnlhjakiipjaaW.PrintMore Go.Proofs.YtebnlhjakiipjaaW.PrintLast Go.Proofs.Ytebnlhjakiipjaa.PPlf
theorem u32_id {y : Int} (h0 : 0 ≤ y) (h1 : y < 4294967296) : IntKind.u32.wrap y = y := by
  simp [IntKind.wrap, IntKind.bits, IntKind.signed]
  omega
theorem own_raise {w : World} {base e size n B : Nat} {v : Value} {xs : List Value} (h : w.ownsRow base e size v n xs) (hb : ∀ k, v.ownBlock = some k → B ≤ k) : w.ownsRow B e size v n xs := by
  obtain ⟨h1, h2⟩ := h
  refine ⟨h1, ?_⟩
  rcases h2 with h2 | ⟨g, cap, cur, rfl, h3, h4⟩
  · exact .inl h2
  · exact .inr ⟨g, cap, cur, rfl, hb g rfl, h4⟩
theorem pfC_set : ∀ (l : List S27) (i : Nat) (m : S27), ((pfC l).set (i * 2) (.int .u32 m.f0)).set (i * 2 + 1) (.int .i64 m.f1) = pfC (l.set i m)
  | [], i, m => by simp [pfC]
  | x :: r, 0, m => by simp [pfC]
  | x :: r, i + 1, m => by
    have := pfC_set r i m
    rw [show (i + 1) * 2 = i * 2 + 1 + 1 from by omega]
    simp only [pfC, List.set_cons_succ]
    rw [this]
/-- an element is written -/
theorem Row.set1 {w : World} {base g c : Nat} {xs : List S27} (h : Row w base (.slice (some ⟨g, 0, none⟩) xs.length c) xs) (i : Nat) (m : S27) : Row ((w.setCell ⟨g, i * 2, none⟩ (.int .u32 m.f0)).setCell ⟨g, i * 2 + 1, none⟩ (.int .i64 m.f1)) base (.slice (some ⟨g, 0, none⟩) xs.length c) (xs.set i m) := by
  have h1 : w.ownsRow base 27 2 (.slice (some ⟨g, 0, none⟩) xs.length c) xs.length (pfC xs) := h
  have h2 := ((h1.stored (i * 2) (.int .u32 m.f0)).1.stored (i * 2 + 1) (.int .i64 m.f1)).1
  rw [pfC_set] at h2
  unfold Row
  rw [List.length_set]
  exact h2
/-- one element more, where there is room -/
theorem Row.in1 {w : World} {base g c : Nat} {xs : List S27} (h : Row w base (.slice (some ⟨g, 0, none⟩) xs.length c) xs) (hroom : xs.length < c) (x : S27) (hl : xs.length < 8796093022207) :
    ∃ w', (Builtin.append_ #[28, 28] 28 #[.slice (some ⟨g, 0, none⟩) xs.length c, .slice (some ⟨w.heap.size, 0, none⟩) 1 1]).run Try.prog (w.alloc (.cells #[.int .u32 x.f0, .int .i64 x.f1] 27)) = .ok (.slice (some ⟨g, 0, none⟩) (xs.length + 1) c) w' ∧ Row w' base (.slice (some ⟨g, 0, none⟩) (xs ++ [x]).length c) (xs ++ [x]) ∧ w.grownBy w' (some g) := by
  have hb := below_alloc (Below.refl w.heap.size w) (.cells #[.int .u32 x.f0, .int .i64 x.f1] 27)
  have h0 : Row (w.alloc (.cells #[.int .u32 x.f0, .int .i64 x.f1] 27)) 0 (.slice (some ⟨g, 0, none⟩) xs.length c) xs := (Row.low h).below hb
  obtain ⟨w', g', c', h1, h2, h3⟩ := h0.app 1 (news := [x]) rfl (by omega) (by omega) ⟨w.heap.size, 0, none⟩ 1 (fun j u hj => World.news_of_block (cs := #[.int .u32 x.f0, .int .i64 x.f1]) (t := 27) (fr := (0, 0)) (heap_alloc_new w _) j u hj)
  rcases h3 with ⟨_, rfl, e, hg⟩ | ⟨h3, _⟩
  · injection e with e
    injection e with e
    subst e
    refine ⟨w', h1, own_raise h2 (fun k hk => own_base h k hk), World.grownBy.trans (World.grownBy_alloc w _ _) hg⟩
  · omega
theorem info28 : (Try.prog.info? 28).map (fun i => (i.zero, i.size, i.bytes)) = some (some (.slice none 0 0), 1, 24) := by kernel_rfl
/-- lists are put behind lists -/
theorem arr_app {w : World} {base : Nat} {va : Value} {X : List Value} (h : w.ownsRow base 28 1 va X.length X) (hb : base ≤ w.heap.size) (news : List Value) (hn : ∀ u ∈ news, u.oneCell' = true) (hlen : X.length + news.length ≤ 1048576) :
    ∃ v' w', (Builtin.append_ #[85, 85] 85 #[va, .slice (some ⟨w.heap.size, 0, none⟩) news.length news.length]).run Try.prog (w.alloc (.cells news.toArray 28)) = .ok v' w' ∧ w'.ownsRow base 28 1 v' (X ++ news).length (X ++ news) ∧ w.grownBy w' va.ownBlock ∧ NB va v' w := by
  obtain ⟨i, hi, hzz⟩ := Option.map_eq_some_iff.1 info28
  simp only [Prod.mk.injEq] at hzz
  obtain ⟨hz, hs, hbb⟩ := hzz
  obtain ⟨v', w', h1, h2, h3, h4⟩ := app_any (w.alloc (.cells news.toArray 28)) (t := 85) (e := 28) (news := news) Try.underlying85 hi hz hs hbb rfl (by omega) (World.ownsRow.alloc h _) (by rw [World.size_alloc]; omega) (some ⟨w.heap.size, 0, none⟩) news.length news.length (by omega) (.inr ⟨_, rfl, by
    have := World.news_of_block (cs := news.toArray) (t := 28) (fr := (0, 0)) (heap_alloc_new w (.cells news.toArray 28))
    intro j u hj
    exact this j u (by simpa using hj)⟩) hn (by unfold maxLen; omega) (by omega)
  refine ⟨v', w', h1, ?_, World.grownBy.trans (World.grownBy_alloc w _ _) ⟨h3.os, h3.tape, h3.output, h3.size, h3.block⟩, fun k hk => ?_⟩
  · rw [List.length_append]
    exact h2
  · rcases h4 with h4 | h4
    · exact .inl (h4 ▸ hk)
    · rw [h4] at hk; injection hk with hk
      have : (w.alloc (.cells news.toArray 28)).heap.size = w.heap.size + 1 := by simp
      exact .inr (by omega)
/-- a list of the lists -/
theorem arr_at {w : World} {base : Nat} {va : Value} {X : List Value} (h : w.ownsRow base 28 1 va X.length X) {i : Nat} (hi : i < X.length) : ∃ g c, va = .slice (some ⟨g, 0, none⟩) X.length c ∧ w.cell? ⟨g, i, none⟩ = some X[i] := by
  obtain ⟨g, c, e, _⟩ := World.ownsRow.form h (by omega)
  subst e
  refine ⟨g, c, rfl, ?_⟩
  have := World.ownsRow.cells (g := g) h rfl i X[i] (by simp [hi])
  rw [add_plain] at this
  simpa using this
theorem arr_sl {w : World} {base : Nat} {va : Value} {X : List Value} (h : w.ownsRow base 28 1 va X.length X) : ∃ A c, va = .slice A X.length c := by
  rcases h.2 with ⟨e, h0⟩ | ⟨g, c, cur, e, _⟩
  · exact ⟨none, 0, by rw [e, h0]⟩
  · exact ⟨_, c, e⟩
abbrev Lz := List (Value × List S27)
/-- lists, each in a block of its own, newer than w0 -/
structure LsOk (w0 w : World) (T : Lz) : Prop where
  row : ∀ (i : Nat) (h : i < T.length), Row w w0.heap.size T[i].1 T[i].2
  ap : ∀ (i j : Nat) (hi : i < T.length) (hj : j < T.length), i ≠ j → ∀ k, T[i].1.ownBlock = some k → T[j].1.ownBlock ≠ some k
section
variable {w0 w w' : World} {T : Lz} {H : List Nat}
theorem LsOk.nil (w0 w : World) : LsOk w0 w [] := ⟨fun i h => absurd h (Nat.not_lt_zero _), fun i j h => absurd h (Nat.not_lt_zero _)⟩
theorem LsOk.step (h : LsOk w0 w T) (hb : ∀ (i : Nat) (hi : i < T.length), ∀ k, T[i].1.ownBlock = some k → w'.heap[k]? = w.heap[k]?) : LsOk w0 w' T := ⟨fun i hi => (h.row i hi).step (hb i hi), h.ap⟩
theorem LsOk.below (h : LsOk w0 w T) (hb : Below w.heap.size w w') : LsOk w0 w' T := h.step (fun i hi k hk => hb.block k ((h.row i hi).lt k hk).2)
/-- what turns blocks of other types alone -/
theorem LsOk.typed (h : LsOk w0 w T) (ht : Turn w w' H) (hH : ∀ k cs, w.heap[k]? = some (.cells cs 27 (0, 0)) → k ∉ H) : LsOk w0 w' T :=
  h.step (fun i hi k hk => ht.block k ((h.row i hi).lt k hk).2 (by obtain ⟨c, hc⟩ := own_typed (h.row i hi) k hk; exact hH k c hc))
theorem LsOk.snoc (h : LsOk w0 w T) (hs : w0.heap.size ≤ w.heap.size) (hb : Below w.heap.size w w') {v : Value} {xs : List S27} (r : Row w' w.heap.size v xs) : LsOk w0 w' (T ++ [(v, xs)]) := by
  have h' := h.below hb
  refine ⟨fun i hi => ?_, fun i j hi hj hij k hk hk2 => ?_⟩
  · rw [List.length_append, List.length_singleton] at hi
    by_cases c : i < T.length
    · rw [List.getElem_append_left c]; exact h'.row i c
    · obtain rfl : i = T.length := by omega
      rw [List.getElem_concat_length rfl]
      exact own_less r hs
  · rw [List.length_append, List.length_singleton] at hi hj
    by_cases ci : i < T.length
    · by_cases cj : j < T.length
      · rw [List.getElem_append_left ci] at hk
        rw [List.getElem_append_left cj] at hk2
        exact h.ap i j ci cj hij k hk hk2
      · obtain rfl : j = T.length := by omega
        rw [List.getElem_append_left ci] at hk
        rw [List.getElem_concat_length rfl] at hk2
        have := ((h.row i ci).lt k hk).2
        have := (Row.lt r k hk2).1
        omega
    · obtain rfl : i = T.length := by omega
      by_cases cj : j < T.length
      · rw [List.getElem_append_left cj] at hk2
        rw [List.getElem_concat_length rfl] at hk
        have := ((h.row j cj).lt k hk2).2
        have := (Row.lt r k hk).1
        omega
      · omega
/-- one of them is another now, in its block -/
theorem LsOk.put (h : LsOk w0 w T) {j : Nat} (hj : j < T.length) {v : Value} {xs : List S27} (hv : v.ownBlock = T[j].1.ownBlock) (r : Row w' w0.heap.size v xs) (ht : Turn w w' v.ownBlock.toList) : LsOk w0 w' (T.set j (v, xs)) := by
  refine ⟨fun i hi => ?_, fun i k hi hk hik b hb hb2 => ?_⟩
  · rw [List.length_set] at hi
    by_cases c : j = i
    · subst c
      rw [List.getElem_set_self]; exact r
    · rw [List.getElem_set_ne c]
      refine (h.row i hi).step (fun b hb => ht.block b ((h.row i hi).lt b hb).2 (fun hm => ?_))
      rw [Option.mem_toList, hv] at hm
      exact h.ap j i hj hi c b hm hb
  · rw [List.length_set] at hi hk
    have e : ∀ (i : Nat) (hi : i < T.length), ((T.set j (v, xs))[i]'(by rw [List.length_set]; exact hi)).1.ownBlock = T[i].1.ownBlock := fun i hi => by
      by_cases c : j = i
      · subst c
        rw [List.getElem_set_self]; exact hv
      · rw [List.getElem_set_ne c]
    rw [e i hi] at hb
    rw [e k hk] at hb2
    exact h.ap i k hi hk hik b hb hb2
end
end Go.Proofs.Ytebnlhjakiipjaa.Pl
